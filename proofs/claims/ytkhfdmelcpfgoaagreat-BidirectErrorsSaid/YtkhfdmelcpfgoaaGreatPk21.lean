/-
  A part of the proof of this claim's statement (SyWM, RxAw, RxXL, RxYB, RxYK, SyCt, SyCu, SyWJ, SyWK, BdWH, SyBD): plain theorems; no conditions beyond those each names.
-/
import Derived.Test.YtkhfdmelcpfgoaaGreatPk20
import Derived.Test.YtkhfdmelcpfgoaaGreatPk12
import Derived.Test.YtkhfdmelcpfgoaaGreatPk18
import Derived.Test.YtkhfdmelcpfgoaaGreatPk16
section
set_option maxRecDepth 100000
set_option linter.unusedSimpArgs false
set_option linter.unusedVariables false
namespace Go.Proofs.YtkhfdmelcpfgoaaGreat
open Go Go.W Go.Tk Go.Rx Go.Bd Go.Sy Go.Maps
def LitS (vars:List Nat) (G:BFn):Prop:=∃ i,i < 2 * nBits vars∧(G=(fun a=>a i)∨G=fun a=>!a i)
def VlS (vars:List Nat) (v x nx:Nat) (G:BFn):Prop:=∃ j,j < wd (vars.getD v 0)∧G=vlB vars v x nx j
def FacS (vars:List Nat) (l:List Go.Tk.Fc) (G:BFn):Prop:=(∃ i,i < l.length∧VlS vars (l.getD i (0,0)).1 (l.getD i (0,0)).2 0 G)∨∃ j,j < l.length∧G=fcB vars l j
def SaS (vars:List Nat) (v:Nat) (G:BFn):Prop:=∃ j,j < wd (vars.getD v 0)∧(G=(fun a=>a (2 * (bP vars v+j)) && a (2 * (bP vars v+j)+1))∨G=(fun a=>!a (2 * (bP vars v+j)) && !a (2 * (bP vars v+j)+1)) ∨
 G=(fun a=>(a (2 * (bP vars v+j)) && a (2 * (bP vars v+j)+1)) || (!a (2 * (bP vars v+j)) && !a (2 * (bP vars v+j)+1)))∨G=saB vars v j)
def EfS (vars:List Nat) (o:No) (v j:Nat) (x:Nf) (G:BFn):Prop:=FacS vars x.cnd G∨VlS vars v x.x 1 G∨G=(fun a=>leB vars o v (j+1) a && hdB (rs vars a 0) x.cnd) ∨
 G=(fun a=>(leB vars o v (j+1) a && hdB (rs vars a 0) x.cnd) && decide (rv vars a 1 v=x.x))∨G=ouB vars o v j∨G=(fun a=>!hdB (rs vars a 0) x.cnd)∨G=leB vars o v j
def ChS (vars:List Nat) (o:No) (v:Nat) (G:BFn):Prop:=SaS vars v G∨G=(fun a=>leB vars o v 0 a && decide (rv vars a 0 v=rv vars a 1 v))∨G=(fun a=>decide (rv vars a 1 v=chgV o (rs vars a 0) v)) ∨
 ∃ j,j < o.effs.length∧∃ x,o.effs[j]?=some x∧x.v=v∧EfS vars o v j x G
def RelS (T:Nt) (o:No) (G:BFn):Prop:=LitS T.vars G∨(∃ v,v < T.vars.length∧ChS T.vars o v G)∨(∃ j,j < T.vars.length∧G=rlB T o j)∨FacS T.vars o.pre G∨G=fun a=>hdB (rs T.vars a 0) o.pre && rlB T o 0 a
def NewS (T:Nt) (G:BFn):Prop:=LitS T.vars G∨(∃ v,v < T.vars.length∧∃ x,x < T.vars.getD v 0∧(VlS T.vars v x 0 G∨G=fun a=>decide (rv T.vars a 0 v < x+1)))∨∃ k,k < T.vars.length∧G=okP T.vars (k+1)
def inn (T:Nt) (nx:Nat):Nat→Bool:=inB (insOf (2 * nBits T.vars) (hfL nx (2 * nBits T.vars)))
def ImgS (T:Nt) (o:No) (P:List Nat→Bool) (G:BFn):Prop:=RelS T o G∨G=imA T o P∨(∃ H,IsC (imA T o P) H∧∀ a,G a=true↔qS 1 (inn T 0) H a) ∨
 ∃ X,(∀ a,X a=true↔qS 1 (inn T 0) (imA T o P) a)∧∃ H,IsC X H∧G=fun b=>H (sgA (2 * nBits T.vars) 1 b)
def PreS (T:Nt) (o:No) (P:List Nat→Bool) (G:BFn):Prop:=RelS T o G∨(∃ H,IsC (setF T.vars P) H∧G=fun b=>H (sgA (2 * nBits T.vars) 0 b))∨G=prA T o P∨(∃ H,IsC (prA T o P) H∧∀ a,G a=true↔qS 1 (inn T 1) H a)∨G=setF T.vars (preP o P)
section
variable {W:BFn→Prop}
theorem litW {vars:List Nat} (h:∀ G,LitS vars G→W G):LitW vars W:=fun i hi=>⟨h _ ⟨i,hi,.inl rfl⟩,h _ ⟨i,hi,.inr rfl⟩⟩
theorem vlW {vars:List Nat} {v x nx:Nat} (h:∀ G,VlS vars v x nx G→W G):VlW vars v x nx W:=fun j hj=>h _ ⟨j,hj,rfl⟩
theorem facW {vars:List Nat} {l:List Go.Tk.Fc} (h:∀ G,FacS vars l G→W G):FcW vars l W:=by
 refine ⟨fun f hf=>vlW fun G hG=>?_,fun j hj=>h _ (.inr ⟨j,hj,rfl⟩)⟩
 obtain ⟨i,hi,rfl⟩:=List.getElem_of_mem hf
 refine h _ (.inl ⟨i,hi,?_⟩)
 simpa [List.getD,hi] using hG
theorem chW {vars:List Nat} {o:No} {v:Nat} (h:∀ G,ChS vars o v G→W G):ChW vars o v W:=by
 have he:∀ (j:Nat) (x:Nf),o.effs[j]?=some x→x.v=v→∀ G,EfS vars o v j x G→W G:=fun j x hx hv G hG=>h _ (.inr (.inr (.inr ⟨j,(List.getElem?_eq_some_iff.1 hx).1,x,hx,hv,hG⟩)))
 exact ⟨fun j hj=>⟨h _ (.inl ⟨j,hj,.inl rfl⟩),h _ (.inl ⟨j,hj,.inr (.inl rfl)⟩),h _ (.inl ⟨j,hj,.inr (.inr (.inl rfl))⟩),h _ (.inl ⟨j,hj,.inr (.inr (.inr rfl))⟩)⟩,h _ (.inr (.inl rfl)),h _ (.inr (.inr (.inl rfl))),
  fun j x hx hv=>facW fun G hG=>he j x hx hv G (.inl hG),fun j x hx hv=>vlW fun G hG=>he j x hx hv G (.inr (.inl hG)),fun j x hx hv=>he j x hx hv _ (.inr (.inr (.inl rfl))),fun j x hx hv=>he j x hx hv _ (.inr (.inr (.inr (.inl rfl)))),
  fun j x hx hv=>he j x hx hv _ (.inr (.inr (.inr (.inr (.inl rfl))))),fun j x hx hv=>he j x hx hv _ (.inr (.inr (.inr (.inr (.inr (.inl rfl)))))),fun j x hx hv=>he j x hx hv _ (.inr (.inr (.inr (.inr (.inr (.inr rfl))))))⟩
theorem relW {T:Nt} {o:No} (h:∀ G,RelS T o G→W G):RelW T o W :=
 ⟨litW fun G hG=>h _ (.inl hG),fun v hv=>chW fun G hG=>h _ (.inr (.inl ⟨v,hv,hG⟩)),fun j hj=>h _ (.inr (.inr (.inl ⟨j,hj,rfl⟩))),facW fun G hG=>h _ (.inr (.inr (.inr (.inl hG)))),h _ (.inr (.inr (.inr (.inr rfl))))⟩
theorem newW {T:Nt} (h:∀ G,NewS T G→W G):NewW T W :=
 ⟨litW fun G hG=>h _ (.inl hG),fun v x hv hx=>vlW fun G hG=>h _ (.inr (.inl ⟨v,hv,x,hx,.inl hG⟩)),fun v x hv hx=>h _ (.inr (.inl ⟨v,hv,x,hx,.inr rfl⟩)),fun k hk=>h _ (.inr (.inr ⟨k,hk,rfl⟩))⟩
theorem imgW {T:Nt} {o:No} {P:List Nat→Bool} (h:∀ G,ImgS T o P G→W G):ImgW T o P W :=
 ⟨relW fun G hG=>h _ (.inl hG),h _ (.inr (.inl rfl)),fun H hH G hG=>h _ (.inr (.inr (.inl ⟨H,hH,hG⟩))),fun X hX H hH=>h _ (.inr (.inr (.inr ⟨X,hX,H,hH,rfl⟩)))⟩
theorem preW {T:Nt} {o:No} {P:List Nat→Bool} (h:∀ G,PreS T o P G→W G):PreW T o P W :=
 ⟨relW fun G hG=>h _ (.inl hG),fun H hH=>h _ (.inr (.inl ⟨H,hH,rfl⟩)),h _ (.inr (.inr (.inl rfl))),fun H hH G hG=>h _ (.inr (.inr (.inr (.inl ⟨H,hH,hG⟩)))),h _ (.inr (.inr (.inr (.inr rfl))))⟩
end
section
variable {n C:Nat} (hC:∀ G:BFn,CovW n (fun K=>K=G) C)
include hC
end
end Go.Proofs.YtkhfdmelcpfgoaaGreat
end
section
set_option linter.unusedVariables false
set_option linter.unusedSimpArgs false
namespace Go.Rx
def LA (f:Nat):Int:=if f < 4 then (f:Int) else -1
end Go.Rx
end
section
set_option maxRecDepth 100000
set_option linter.unusedSimpArgs false
set_option linter.unusedVariables false
namespace Go.Proofs.YtkhfdmelcpfgoaaGreat
open Go Go.W Go.Tk Go.Rx Go.Maps
def IsC (i:Nat) (o:No):Prop:=o.name=ByteArray.empty∧o.cost=2∧o.pre=[(0,i)]∧∃ e:Nf,o.effs=[e]∧e.cnd=[]∧e.v=0∧e.x=i+1∧e.wv.1=.slice none 0 0
end Go.Proofs.YtkhfdmelcpfgoaaGreat
end
section
set_option maxRecDepth 100000
set_option linter.unusedSimpArgs false
set_option linter.unusedVariables false
namespace Go.Proofs.YtkhfdmelcpfgoaaGreat
open Go Go.W Go.Tk Go.Rx Go.Maps
section
variable {w:World} {b:Nat} {T:Nt} {U:List Un}
end
theorem lone {α:Type} {enc:α→List Value} {v:Value} {l:List α} {X:Asr} (ho:oneC v=true):Imp (Star (VwA v enc l) X) (Star (VwsA enc [((⟨v,ho⟩,l):Cell1 × List α)]) X):=by
 rintro w F ⟨Fa,Fb,⟨h1,e1,h2⟩,h3,hd,rfl⟩
 exact ⟨_,⟨Fa,Fb,⟨fun p hp=>by simp at hp; subst hp; exact h1,fun x hx=>h2 x (by rw [← e1]; exact hx),by simpa using e1⟩,h3,hd,rfl⟩,fun x hx=>hx⟩
end Go.Proofs.YtkhfdmelcpfgoaaGreat
end
section
set_option maxRecDepth 100000
set_option linter.unusedSimpArgs false
set_option linter.unusedVariables false
namespace Go.Proofs.YtkhfdmelcpfgoaaGreat
open Go Go.W Go.Tk Go.Rx Go.Maps
theorem apK_st {vars:List Nat} {o:No} {s:List Nat} (hs:StN vars s) (ho:NoG vars o):∀ k,k≤o.effs.length→StN vars (apK o s k)
 | 0,_=>by simpa [apK] using hs
 | k+1,hk=>by
  obtain ⟨e,he⟩:∃ e,o.effs[k]?=some e:=⟨_,List.getElem?_eq_getElem (by omega)⟩
  have ih:=apK_st hs ho k (by omega)
  rw [apK_succ he]
  split
  ·obtain ⟨e1,e2⟩:=ho.eff e (List.mem_of_getElem? he)
   refine ⟨by rw [List.length_set]; exact ih.len,fun v hv=>?_⟩
   by_cases h:v=e.v
   ·subst h
    simp only [List.getD,List.getElem?_set_self (show e.v < (apK o s k).length by rw [ih.len]; exact e1),Option.getD_some]
    exact e2
   ·have:=ih.rng v hv
    simpa only [List.getD,List.getElem?_set_ne (Ne.symm h)] using this
  ·exact ih
theorem apS_st {vars:List Nat} {o:No} {s:List Nat} (hs:StN vars s) (ho:NoG vars o):StN vars (apS o s):=apK_st hs ho _ (Nat.le_refl _)
end Go.Proofs.YtkhfdmelcpfgoaaGreat
end
section
set_option maxRecDepth 100000
set_option linter.unusedSimpArgs false
set_option linter.unusedVariables false
namespace Go.Proofs.YtkhfdmelcpfgoaaGreat
open Go Go.W Go.Tk Go.Rx Go.Bd Go.Sy Go.Maps
def asL:Nat→Nat→List (Nat→Bool)
 | 0,_=>[fun _=>false]
 | d+1,k=>(asL d (k+1)).map (fun a=>upd a k false) ++ (asL d (k+1)).map (fun a=>upd a k true)
theorem num_asL:∀ (d k:Nat) (F:(Nat→Bool)→Bool),num d k F=((asL d k).filter F).length
 | 0,k,F=>by
  rw [num,asL]
  cases h:F fun _=>false <;> simp [h]
 | d+1,k,F=>by
  rw [num,asL,List.filter_append,List.length_append,num_asL,num_asL,List.filter_map,List.filter_map,List.length_map,List.length_map]
  rfl
theorem asL_mem:∀ (d k:Nat) (a:Nat→Bool),a ∈ asL d k↔∀ i,¬ (k≤i∧i < k+d)→a i=false
 | 0,k,a=>by
  rw [asL,List.mem_singleton]
  constructor
  ·rintro rfl i _
   rfl
  ·intro h
   funext i
   exact h i (by omega)
 | d+1,k,a=>by
  rw [asL,List.mem_append,List.mem_map,List.mem_map]
  constructor
  ·rintro (⟨b,hb,rfl⟩ | ⟨b,hb,rfl⟩) i hi <;>
   ·have:i≠k:=by omega
    simp only [upd,if_neg this]
    exact (asL_mem d (k+1) b).1 hb i (by omega)
  ·intro h
   have hb:upd a k false ∈ asL d (k+1):=(asL_mem d (k+1) _).2 fun i hi=>by
    by_cases e:i=k
    ·subst e
     simp [upd]
    ·simp only [upd,if_neg e]
     exact h i (by omega)
   have e:∀ x,a k=x→upd (upd a k false) k x=a:=fun x hx=>by
    funext i
    unfold upd
    by_cases e:i=k
    ·subst e
     rw [if_pos rfl,hx]
    ·rw [if_neg e,if_neg e]
   cases hx:a k with
   | false=>exact .inl ⟨_,hb,e _ hx⟩
   | true=>exact .inr ⟨_,hb,e _ hx⟩
theorem nd_map {α β:Type} {f:α→β} {l:List α} (h:l.Nodup) (hf:∀ a ∈ l,∀ b ∈ l,f a=f b→a=b):(l.map f).Nodup:=by
 unfold List.Nodup
 rw [List.pairwise_map]
 exact List.Pairwise.imp_of_mem (fun ha hb hne e=>hne (hf _ ha _ hb e)) h
theorem asL_nd:∀ (d k:Nat),(asL d k).Nodup
 | 0,k=>by simp [asL]
 | d+1,k=>by
  have ih:=asL_nd d (k+1)
  have z:∀ a ∈ asL d (k+1),a k=false:=fun a ha=>(asL_mem d (k+1) a).1 ha k (by omega)
  have inj:∀ x,∀ a ∈ asL d (k+1),∀ b ∈ asL d (k+1),upd a k x=upd b k x→a=b:=fun x a ha b hb e=>by
   funext i
   by_cases h:i=k
   ·subst h
    rw [z a ha,z b hb]
   ·have:=congrFun e i
    simpa [upd,h] using this
  rw [asL,List.nodup_append]
  refine ⟨nd_map ih (inj false),nd_map ih (inj true),?_⟩
  rintro x hx y hy rfl
  obtain ⟨a,ha,rfl⟩:=List.mem_map.1 hx
  obtain ⟨b,hb,e⟩:=List.mem_map.1 hy
  have:=congrFun e k
  simp [upd] at this
theorem sts_lenS (vars:List Nat):∀ k,∀ s ∈ stsK vars k,s.length=k:=by
 intro k
 induction k with
 | zero=>intro s hs; simp [stsK] at hs; subst hs; rfl
 | succ k ih =>
  intro s hs
  unfold stsK at hs
  obtain ⟨x,hx,h⟩:=List.mem_flatMap.1 hs
  unfold extS at h
  obtain ⟨i,_,rfl⟩:=List.mem_map.1 h
  rw [List.length_append,ih x hx]
  rfl
theorem sts_nd (vars:List Nat):∀ k,(stsK vars k).Nodup:=by
 intro k
 induction k with
 | zero=>simp [stsK]
 | succ k ih =>
  have hl:∀ s ∈ stsK vars k,s.length=k:=sts_lenS vars k
  unfold stsK
  unfold List.Nodup
  rw [List.pairwise_flatMap]
  refine ⟨fun s hs=>?_,?_⟩
  ·unfold extS
   rw [List.pairwise_map]
   exact List.nodup_range.imp fun hne e=>hne (by simpa using e)
  ·refine List.Pairwise.imp_of_mem (fun {a b} ha hb hne x hx y hy e=>hne ?_) ih
   unfold extS at hx hy
   obtain ⟨i,_,rfl⟩:=List.mem_map.1 hx
   obtain ⟨j,_,rfl⟩:=List.mem_map.1 hy
   have:=congrArg (List.take k) e
   rwa [List.take_append_of_le_length (by rw [hl a ha]; exact Nat.le_refl _),List.take_append_of_le_length (by rw [hl b hb]; exact Nat.le_refl _),List.take_of_length_le (by rw [hl a ha]; exact Nat.le_refl _),List.take_of_length_le (by rw [hl b hb]; exact Nat.le_refl _)] at this
theorem bP_cover:∀ (vars:List Nat) (p:Nat),p < nBits vars→∃ v n k,vars[v]?=some n∧k < wd n∧p=bP vars v+k
 | [],p,h=>by simp [nBits] at h
 | m :: l,p,h=>by
  by_cases hp:p < wd m
  ·exact ⟨0,m,p,by simp,hp,by simp [bP]⟩
  ·have hn:nBits (m :: l)=wd m+nBits l:=by simp [nBits]
   obtain ⟨v,n,k,h1,h2,h3⟩:=bP_cover l (p - wd m) (by omega)
   refine ⟨v+1,n,k,by simpa using h1,h2,?_⟩
   have:bP (m :: l) (v+1)=wd m+bP l v:=by unfold bP; simp
   omega
theorem rs_inj {vars:List Nat} {a b:Nat→Bool} (h:rs vars a 0=rs vars b 0) {p:Nat} (hp:p < nBits vars):a (2 * p)=b (2 * p):=by
 obtain ⟨v,n,k,h1,h2,rfl⟩:=bP_cover vars p hp
 have hv:=(List.getElem?_eq_some_iff.1 h1).1
 have hn:vars.getD v 0=n:=by simp [List.getD,h1]
 have e:rv vars a 0 v=rv vars b 0 v:=by rw [← rs_at hv,← rs_at hv,h]
 unfold rv at e
 rw [hn] at e
 have hb:=(valK_eq (g:=fun k=>b (2 * (bP vars v+k)+0)) (wd n) _ (valK_lt _ _)).2 rfl
 have ha:=(valK_eq (g:=fun k=>a (2 * (bP vars v+k)+0)) (wd n) _ (valK_lt (fun k=>b (2 * (bP vars v+k)+0)) _)).2 e
 have:=(ha k h2).trans (hb k h2).symm
 simpa using this
end Go.Proofs.YtkhfdmelcpfgoaaGreat
end
section
set_option maxRecDepth 100000
set_option linter.unusedSimpArgs false
set_option linter.unusedVariables false
namespace Go.Proofs.YtkhfdmelcpfgoaaGreat
open Go Go.W Go.Tk Go.Rx Go.Bd Go.Sy Go.Maps
def ctN (vars:List Nat) (P:List Nat→Bool):Nat:=((stsK vars vars.length).filter P).length
theorem ct_num {vars:List Nat} {P:List Nat→Bool} (h64:∀ n ∈ vars,n≤64):num (2 * nBits vars) 0 (ctF vars P)=ctN vars P:=by
 rw [num_asL]
 unfold ctN
 have hm:∀ a,a ∈ (asL (2 * nBits vars) 0).filter (ctF vars P)↔(∀ i,¬ i < 2 * nBits vars→a i=false)∧StN vars (rs vars a 0)∧P (rs vars a 0)=true∧∀ p,p < nBits vars→a (2 * p+1)=false:=fun a=>by
  rw [List.mem_filter,asL_mem]
  unfold ctF
  rw [Bool.and_eq_true_iff,Bool.and_eq_true_iff,zB_all,okB_iff]
  constructor
  ·rintro ⟨h1,⟨h2,h3⟩,h4⟩
   exact ⟨fun i hi=>h1 i (by omega),h2,h3,h4⟩
  ·rintro ⟨h1,h2,h3,h4⟩
   exact ⟨fun i hi=>h1 i (by omega),⟨h2,h3⟩,h4⟩
 have nd:(((asL (2 * nBits vars) 0).filter (ctF vars P)).map fun a=>rs vars a 0).Nodup:=by
  refine nd_map ((asL_nd _ _).filter _) fun a ha b hb e=>?_
  obtain ⟨a1,_,_,a4⟩:=(hm a).1 ha
  obtain ⟨b1,_,_,b4⟩:=(hm b).1 hb
  funext i
  by_cases hi:i < 2 * nBits vars
  ·by_cases hp:i % 2=0
   ·obtain ⟨p,rfl⟩:∃ p,i=2 * p:=⟨i / 2,by omega⟩
    exact rs_inj e (by omega)
   ·obtain ⟨p,rfl⟩:∃ p,i=2 * p+1:=⟨i / 2,by omega⟩
    rw [a4 p (by omega),b4 p (by omega)]
  ·rw [a1 i hi,b1 i hi]
 have key:=(List.perm_ext_iff_of_nodup nd ((sts_nd vars vars.length).filter P)).2 fun x=>by
  rw [List.mem_map,List.mem_filter,sts_mem]
  constructor
  ·rintro ⟨a,ha,rfl⟩
   obtain ⟨_,h2,h3,_⟩:=(hm a).1 ha
   exact ⟨h2,h3⟩
  ·rintro ⟨h2,h3⟩
   obtain ⟨a,ha⟩:∃ a:Nat→Bool,a=fun i=>decide (i < 2 * nBits vars) && (decide (i % 2=0) && mk2 vars x [] i):=⟨_,rfl⟩
   have hx:rs vars a 0=x:=by
    rw [← rs_mk2 (y:=[]) h64 h2]
    refine rs_congr fun p hp=>?_
    have e1:decide (2 * p+0 < 2 * nBits vars)=true:=by simp; omega
    have e2:decide ((2 * p+0) % 2=0)=true:=by simp
    rw [ha]
    simp only [e1,e2,Bool.true_and]
   refine ⟨a,(hm a).2 ⟨fun i hi=>?_,by rw [hx]; exact h2,by rw [hx]; exact h3,fun p hp=>?_⟩,hx⟩
   ·have:decide (i < 2 * nBits vars)=false:=by simpa using hi
    rw [ha]
    simp only [this,Bool.false_and]
   ·have:decide ((2 * p+1) % 2=0)=false:=by simp
    rw [ha]
    simp only [this,Bool.false_and,Bool.and_false]
 rw [← key.length_eq,List.length_map]
end Go.Proofs.YtkhfdmelcpfgoaaGreat
end
section
set_option maxRecDepth 100000
set_option linter.unusedSimpArgs false
set_option linter.unusedVariables false
namespace Go.Proofs.YtkhfdmelcpfgoaaGreat
open Go Go.W Go.Tk Go.Rx Go.Bd Go.Sy Go.Maps
theorem apS_sk {o o2:No} (h:o.effs.map skE=o2.effs.map skE) (s:List Nat):apS o s=apS o2 s:=by
 have hl:=congrArg List.length h
 rw [List.length_map,List.length_map] at hl
 have key:∀ k,k≤o.effs.length→apK o s k=apK o2 s k:=by
  intro k hk
  induction k with
  | zero=>rfl
  | succ k ih =>
   have ih:=ih (by omega)
   obtain ⟨e,he⟩:∃ e,o.effs[k]?=some e:=⟨_,List.getElem?_eq_getElem (by omega)⟩
   obtain ⟨e2,he2⟩:∃ e,o2.effs[k]?=some e:=⟨_,List.getElem?_eq_getElem (by omega)⟩
   have hs:skE e=skE e2:=by
    have:=congrArg (fun l=>l[k]?) h
    simpa [he,he2] using this
   unfold skE at hs
   simp only [Prod.mk.injEq] at hs
   rw [apK_succ he,apK_succ he2,ih,hs.1,hs.2.1,hs.2.2]
 unfold apS
 rw [← hl]
 exact key _ (Nat.le_refl _)
theorem Alk.sk {T T':Nt} (h:Alk T T') {i:Nat} {o:No} (ho:T.ops[i]?=some o):∃ o',T'.ops[i]?=some o'∧o'.pre=o.pre∧(∀ s,apS o' s=apS o s)∧o'.effs.length=o.effs.length:=by
 have:=congrArg (fun l=>l[i]?) h.ops
 simp only [List.getElem?_map,ho,Option.map_some] at this
 cases h2:T'.ops[i]? with
 | none=>rw [h2] at this; cases this
 | some o2 =>
  rw [h2] at this
  simp only [Option.map_some,Option.some.injEq] at this
  unfold skO at this
  simp only [Prod.mk.injEq] at this
  have hl:=congrArg List.length this.2.2.2
  rw [List.length_map,List.length_map] at hl
  exact ⟨o2,rfl,this.2.2.1,apS_sk this.2.2.2,hl⟩
theorem imgP_alk {T T':Nt} {o o':No} (h:Alk T T') (hp:o'.pre=o.pre) (hs:∀ s,apS o' s=apS o s) (P:List Nat→Bool):imgP T' o' P=imgP T o P:=by
 funext s
 unfold imgP
 rw [h.vars,hp]
 simp only [hs]
theorem preP_alk {o o':No} (hp:o'.pre=o.pre) (hs:∀ s,apS o' s=apS o s) (P:List Nat→Bool):preP o' P=preP o P:=by
 funext s
 unfold preP
 rw [hp,hs]
end Go.Proofs.YtkhfdmelcpfgoaaGreat
end
section
set_option maxRecDepth 100000
set_option linter.unusedSimpArgs false
set_option linter.unusedVariables false
namespace Go.Proofs.YtkhfdmelcpfgoaaGreat
open Go Go.W Go.Tk Go.Rx Go.Bd Go.Sy Go.Maps
theorem getM_put {κ α:Type} [DecidableEq κ]:∀ (l:List (κ × α)) (x:κ) (v:α),getM (putM l x v) x=some v:=by
 intro l x v
 unfold getM putM
 split
 ·rename_i h
  rw [List.any_eq_true] at h
  induction l with
  | nil=>obtain ⟨p,hp,_⟩:=h; cases hp
  | cons p l ih =>
   by_cases e:p.1=x
   ·simp [e]
   ·simp only [List.map_cons,e,if_false,List.find?_cons,decide_false]
    refine ih ?_
    obtain ⟨q,hq,hq2⟩:=h
    rcases List.mem_cons.1 hq with rfl | hq
    ·exact absurd (of_decide_eq_true hq2) e
    ·exact ⟨q,hq,hq2⟩
 ·rename_i h
  rw [List.find?_append]
  have:l.find? (fun p=>decide (p.1=x))=none:=by
   rw [List.find?_eq_none]
   intro p hp hc
   exact h (List.any_eq_true.2 ⟨p,hp,hc⟩)
  rw [this]
  simp
theorem getM_put_ne {κ α:Type} [DecidableEq κ] {l:List (κ × α)} {x y:κ} {v:α} (h:x≠y):getM (putM l x v) y=getM l y:=by
 unfold getM putM
 split
 ·rename_i hh
  clear hh
  induction l with
  | nil=>rfl
  | cons p l ih =>
   by_cases e:p.1=x
   ·have:¬ p.1=y:=fun e2=>h (by rw [← e,e2])
    simp only [List.map_cons,e,if_true,List.find?_cons,h,decide_false,this]
    exact ih
   ·by_cases e2:p.1=y
    ·have hyx:¬ y=x:=fun e=>h e.symm
     simp [List.map_cons,e2,hyx]
    ·simp only [List.map_cons,e,if_false,List.find?_cons,e2,decide_false]
     exact ih
 ·rw [List.find?_append]
  cases l.find? (fun p=>decide (p.1=y)) with
  | some p=>rfl
  | none=>simp [h]
end Go.Proofs.YtkhfdmelcpfgoaaGreat
end
section
set_option maxRecDepth 100000
set_option linter.unusedSimpArgs false
set_option linter.unusedVariables false
namespace Go.Proofs.YtkhfdmelcpfgoaaGreat
open Go Go.W Go.Bd Go.Maps
def PickI (n:Nat) (ns:Ns) (f g:Nat) (l:List Bool):Prop:=Ref ns g∧g≠0∧l.length=n∧∀ i,i < n→pickF n ns f i=(l.getD i false || pickF n ns g i)
theorem PickI.step {n f g:Nat} {ns:Ns} {l:List Bool} (w:Wf n ns) (h:PickI n ns f g l) (h2:2≤g):if (at_ n ns g).low=0 then PickI n ns f (at_ n ns g).high (l.set (tv n ns g) true) else PickI n ns f (at_ n ns g).low l:=by
 obtain ⟨h1,h0,hl,hp⟩:=h
 have hne:(at_ n ns g).low≠(at_ n ns g).high:=by rw [at_ge h2 h1]; exact w.ne _ _
 have tvn:=w.tv_var h2 h1
 rw [pick_node w h2 h1] at hp
 by_cases hz:(at_ n ns g).low=0
 ·rw [if_pos hz] at hp ⊢
  refine ⟨w.ref_high h1,by omega,by simpa using hl,fun i hi=>?_⟩
  rw [hp i hi]
  by_cases he:i=tv n ns g
  ·subst he
   rw [upd_same]
   simp [List.getD,List.getElem?_set,hl,hi]
  ·rw [upd_ne he]
   simp only [List.getD_eq_getElem?_getD,List.getElem?_set]
   rw [if_neg (fun e=>he e.symm)]
 ·rw [if_neg hz] at hp ⊢
  exact ⟨w.ref_low h1,hz,hl,hp⟩
theorem PickI.done {n f g:Nat} {ns:Ns} {l:List Bool} (h:PickI n ns f g l) (h2:g < 2):l=(List.range n).map (pickF n ns f):=by
 obtain ⟨h1,h0,hl,hp⟩:=h
 refine List.ext_getElem (by simp [hl]) fun i h3 h4=>?_
 have:=hp i (by omega)
 rw [pick_lt h2] at this
 simp [this,List.getD,List.getElem?_eq_getElem h3]
def PickV (m n lim:Nat) (ns:Ns) (f:Nat) (sv:Value) (B:Asr) (w:World) (F:List Nat) (q:Nat) (ρ:Env) (w':World):Prop :=
 ∃ l,ρ 0=.pointer (some ⟨m,0,none⟩)∧ρ 1=.int .i64 (q:Nat)∧ρ 7=sv∧PickI n ns f q l∧At w F (Star (OwnA sv 4 1 bv l) (Star (MgrA m n lim ns) B)) w'
theorem pick_spec {w w1:World} {F:List Nat} {B:Asr} (m n lim:Nat) (ns:Ns) (f:Nat) (hB:Lcl B) (hA:At w F (Star (MgrA m n lim ns) B) w1) (hw:Wf n ns) (hb:Bnd n lim ns) (hf:Ref ns f) (h0:f≠0) :
  Calls Tryz.prog 87 [.pointer (some ⟨m,0,none⟩),.int .i64 (f:Nat)].toArray w1 fun e w'=>∃ x,e=.returned x∧∃ v,x=.tuple #[v,.nilIface]∧At w F (Star (OwnA v 4 1 bv ((List.range n).map (pickF n ns f))) (Star (MgrA m n lim ns) B)) w':=by
 have hbn:=hb.hn
 have hbl:=hb.hl
 have hbs:=hb.hs
 refine enter Tryz.func87 mixed low87 (Nat.le_of_ble_eq_true rfl) ?_
 simp only [L87]
 have hl:Lcl (Star (MgrA m n lim ns) B):=Lcl.mgr.star hB
 simp [rowOf]
 refine cl_of (check_lit [(f:Int)] (MgrA.rd hA) hb rfl (by simp) rfl) ?_
 rintro u w2 ⟨rfl,k2⟩
 have h2:=hA.kp0 hl k2
 have hr:[(f:Int)].all (refB ns)=true:=by
  unfold Ref at hf
  simp [refB]; omega
 rw [hr]
 obtain ⟨nv,b,ho,_,_⟩:=MgrA.rd h2
 unfold mgrO at ho
 have h4:=h2.made (E:=4) (enc:=bv) (x:=false) (z:=[.bool false]) (n:=n) hl rfl bv_len (by unfold maxLen; omega)
 simp [bchkV,e_eq0,h0,cell_blk ho]
 refine gd_mk (by omega) ?_
 obtain ⟨sv,hsv⟩:∃ sv,sv=Value.slice (some ⟨w2.heap.size,0,none⟩) n n:=⟨_,rfl⟩
 rw [← hsv] at h4
 simp [← hsv]
 refine loop_inv (PickV m n lim ns f sv B w F) f
  ⟨List.replicate n false,by simp,by simp,by simp,⟨hf,h0,by simp,fun i hi=>by simp [List.getD,List.getElem?_replicate,hi]⟩,h4⟩ ?_
 rintro q ρ w4 ⟨l,g0,g1,g7,hI,h5⟩
 by_cases hq:q < 2
 ·have hq':¬ (1:Int) < q:=by omega
  simp [g1,g7,hq']
  rw [hI.done hq] at h5
  exact h5
 ·have hq':(1:Int) < q:=by omega
  have hq2:2≤q:=by omega
  have hst:=hI.step hw hq2
  have hrq:=hI.1
  have l1:=hw.lt_low hq2 hrq
  have l2:=hw.lt_high hq2 hrq
  have tvn:=hw.tv_var hq2 hrq
  have hLl:Lcl (Star (OwnA sv 4 1 bv l) (Star (MgrA m n lim ns) B)):=Lcl.own.star hl
  simp [g1,g0,hq']
  refine cl_of (at_spec m n lim q ns w4 (MgrA.rd h5.drop) hb hrq) ?_
  rintro _ w5 ⟨rfl,k5⟩
  have h6:=(h5.kp0 hLl k5).alloc (.cells #[.int .i64 0,.int .i64 0,.int .i64 0] 137) hLl
  simp [ndV,bn_len]
  refine h6.st hLl (by simp [en,ints]) (by simp [en,ints]) fun w7 h7=>?_
  have hon:=h7.obj
  simp [en,ints] at hon
  have h8:=h7.rot
  have hLn:∀ {o:Obj} {b:Nat},Lcl (Star (ObjA b o) (Star (MgrA m n lim ns) B)):=Lcl.obj.star hl
  have eqz:(((at_ n ns q).low:Int) == 0)=decide ((at_ n ns q).low=0):=e_eq0 _
  simp [cell_blk hon,eqz]
  by_cases hz:(at_ n ns q).low=0
  ·rw [if_pos hz] at hst
   have hvl:(at_ n ns q).v < l.length:=by rw [hI.2.2.1]; exact tvn
   simp (disch:=omega) [hz,cell_blk hon,g7,h8.own.idx]
   refine At.store1 (k:=(at_ n ns q).v) (x:=true) hLn h8 bv_len bv_one hvl rfl fun w9 h9=>?_
   have hon9:=h9.drop.obj
   simp [en,ints] at hon9
   simp [cell_blk hon9,g0,g7]
   exact ⟨_,l2,l.set (at_ n ns q).v true,by simp [g0],by simp,by simp [g7],hst,h9.by (Imp.un Imp.dr)⟩
  ·rw [if_neg hz] at hst
   simp [hz,g0,g7]
   exact ⟨_,l1,l,by simp [g0],by simp,by simp [g7],hst,h8.by (Imp.un Imp.dr)⟩
end Go.Proofs.YtkhfdmelcpfgoaaGreat
end
section
set_option maxRecDepth 100000
set_option linter.unusedSimpArgs false
set_option linter.unusedVariables false
namespace Go.Proofs.YtkhfdmelcpfgoaaGreat
open Go Go.W Go.Tk Go.Rx Go.Bd Go.Sy Go.Maps
def pL (vars:List Nat) (p:Nat→Bool) (v x:Nat):List Nat:=(List.range vars.length).map fun u=>if u < v then rv vars p 0 u else if u=v then x else 0
theorem pL_len (vars:List Nat) (p:Nat→Bool) (v x:Nat):(pL vars p v x).length=vars.length:=by simp [pL]
theorem pL_zero (vars:List Nat) (p:Nat→Bool):pL vars p 0 0=List.replicate vars.length 0:=by
 unfold pL
 refine List.ext_getElem (by simp) fun i h1 h2=>?_
 simp
theorem pL_get {vars:List Nat} {p:Nat→Bool} {v x:Nat} (hv:v < vars.length):(pL vars p v x)[v]?=some x:=by
 unfold pL
 simp [hv]
theorem pL_set {vars:List Nat} {p:Nat→Bool} {v x y:Nat}:(pL vars p v x).set v y=pL vars p v y:=by
 refine List.ext_getElem (by simp [pL]) fun i h1 h2=>?_
 rw [List.getElem_set]
 simp only [pL,List.getElem_map,List.getElem_range]
 by_cases h:v=i
 ·subst h; simp
 ·have h':¬ i=v:=fun e=>h e.symm
  simp [h,h']
theorem pL_next {vars:List Nat} {p:Nat→Bool} {v:Nat}:pL vars p v (rv vars p 0 v)=pL vars p (v+1) 0:=by
 unfold pL
 refine List.map_congr_left fun u hu=>?_
 by_cases h1:u < v
 ·rw [if_pos h1,if_pos (by omega)]
 ·by_cases h2:u=v
  ·subst h2; rw [if_neg h1,if_pos rfl,if_pos (by omega)]
  ·rw [if_neg h1,if_neg h2,if_neg (by omega)]
   split <;> rfl
theorem pL_end (vars:List Nat) (p:Nat→Bool):pL vars p vars.length 0=rs vars p 0:=by
 unfold pL rs
 refine List.map_congr_left fun u hu=>?_
 rw [if_pos (List.mem_range.1 hu)]
theorem valK_succ (g:Nat→Bool) (k:Nat):valK g (k+1)=2 * valK g k+if g k=true then 1 else 0:=rfl
section
variable {w w1:World} {F:List Nat} {A B B':Asr} {s m lim:Nat} {T:Nt} {q:SpC} {ns:Ns} {ks:List (Nat × Bool)} {ss:List (Nat × Nat)}
def PkI (s m lim:Nat) (T:Nt) (q:SpC) (ns:Ns) (ks:List (Nat × Bool)) (ss:List (Nat × Nat)) (B:Asr) (w:World) (F:List Nat) (p:Nat→Bool) (bw ov:Value) (v x:Nat) (ρ:Env) (w':World):Prop :=
 ρ 0=.pointer (some ⟨s,0,none⟩)∧ρ 6=bw∧ρ 8=ov∧At w F (Star (OwnA ov 3 1 nE (pL T.vars p v x)) (Star (OwnA bw 4 1 bv ((List.range (2 * nBits T.vars)).map p)) (SpcA s m lim T q ns ks ss B))) w'
set_option maxHeartbeats 4000000 in
theorem spick_spec (a:Nat) (P:List Nat→Bool) (hG:SpG lim T q ns ks ss) (hB:Lcl B) (h:At w F (SpcA s m lim T q ns ks ss B) w1) (ha:Kn T ns ks a P) (h0:a≠0) :
  Calls Tryz.prog 63 [.pointer (some ⟨s,0,none⟩),.int .i64 (a:Nat)].toArray w1 fun en w'=>∃ v,en=.returned v∧∃ u st,v=.tuple #[u,.nilIface]∧StN T.vars st∧P st=true∧At w F (SpcA s m lim T q ns ks ss (Star (OwnA u 3 1 nE st) B)) w':=by
 refine enter Tryz.func63 mixed low63 (Nat.le_of_ble_eq_true rfl) ?_
 simp only [L63]
 have os:=SpcA.obj h
 unfold spO at os
 rw [hG.cells.1] at os
 have hvl:=hG.g.vlen
 have hbt:=hG.ok.bt
 have hale:=ha.le hG
 have hka:i64ok a:=by unfold i64ok; omega
 have hLS:Lcl (SpcA s m lim T q ns ks ss B):=SpcA.lcl hB
 simp [cell_blk os]
 refine MapM.look1 (x:=a) (SpcA.km h) bkeyI Tryz.underlying97 zbool hka ?_
 simp [ha.kn,boolV,cell_blk os]
 have h':=h
 unfold SpcA at h'
 refine cl_of (pick_spec m (2 * nBits T.vars) lim ns a (SpcA.rest hB) h' hG.ok.wf hG.ok.bnd ha.ok.1 h0) ?_
 rintro _ w2 ⟨bw,rfl,h2⟩
 have h2:At w F (Star (OwnA bw 4 1 bv ((List.range (2 * nBits T.vars)).map (pickF (2 * nBits T.vars) ns a))) (SpcA s m lim T q ns ks ss B)) w2:=h2
 obtain ⟨p,hp⟩:∃ p,p=pickF (2 * nBits T.vars) ns a:=⟨_,rfl⟩
 have hpt:eval ns p a=true:=by rw [hp]; exact pick_true hG.ok.wf ha.ok.1 h0
 rw [← hp] at h2
 rw [ha.ok.2,Bool.and_eq_true] at hpt
 have hst:StN T.vars (rs T.vars p 0):=okB_iff.1 hpt.1
 have h2s:=h2.by Imp.dr
 have os2:=SpcA.obj h2s
 unfold spO at os2
 rw [hG.cells.1] at os2
 have hT2:=SpcA.tsk h2s
 simp (disch:=omega) [cell_blk os2,hT2.vars.len]
 obtain ⟨n,hn⟩:∃ n,n=T.vars.length:=⟨_,rfl⟩
 have h3:=h2.made (E:=3) (enc:=nE) (x:=0) (z:=[.int .i64 0]) (n:=n) (Lcl.own.star hLS) rfl nE_len (by unfold maxLen; omega)
 rw [hn,← pL_zero T.vars p,← hn] at h3
 rw [← hn]
 refine gd_mk (by omega) ?_
 simp
 obtain ⟨ov,hov⟩:∃ ov,ov=Value.slice (some ⟨w2.heap.size,0,none⟩) n n:=⟨_,rfl⟩
 rw [← hov] at h3 ⊢
 refine range_loop (n:=n) (by omega) (fun v ρ w'=>PkI s m lim T q ns ks ss B w F p bw ov v 0 ρ w') (by simp) (by simp)
  ⟨by simp,by simp,by simp,h3⟩ (by decide) (fun _ _ _ _ h=>by unfold PkI at h ⊢; simpa using h) (fun _ _ _ _ h=>by unfold PkI at h ⊢; simpa using h) ?_ ?_
 ·rintro v ρ w4 hv hcv hlv ⟨e0,e6,e8,h4⟩
  have hvt:v < T.vars.length:=by omega
  obtain ⟨nn,hvn⟩:∃ nn,T.vars[v]?=some nn:=⟨_,List.getElem?_eq_getElem hvt⟩
  have hnd:T.vars.getD v 0=nn:=by simp [List.getD,hvn]
  have hw6:=wd_le nn
  obtain ⟨W,hW⟩:∃ W,W=wd nn:=⟨_,rfl⟩
  rw [← hW] at hw6
  have h4s:=(h4.by Imp.dr).by Imp.dr
  have os4:=SpcA.obj h4s
  unfold spO at os4
  have hwv4:=SpcA.wv h4s
  have hwc:=nE_cell hwv4 (widthL_at hvn)
  rw [← hW] at hwc
  have hvw:(v:Int) < (widthL T.vars).length:=by simp [widthL]; omega
  simp (disch:=omega) [e0,hcv,hlv,cell_blk os4,hwv4.idx,hwc]
  obtain ⟨g,hg⟩:∃ g:Nat→Bool,g=fun k=>p (2 * (bP T.vars v+k)):=⟨_,rfl⟩
  refine range_loop (n:=W) (by omega) (fun k ρ w'=>ρ 9=.int .i64 (v:Nat)∧ρ 42=.int .i64 (n:Nat)∧ρ 43=.int .i64 (v:Nat)∧PkI s m lim T q ns ks ss B w F p bw ov v (valK g k) ρ w') (by simp) (by simp)
   ⟨by simp,by simp [hlv],by simp [hcv],by simp [e0],by simp [e6],by simp [e8],h4⟩ (by decide) (fun _ _ _ _ h=>by unfold PkI at h ⊢; simpa using h) (fun _ _ _ _ h=>by unfold PkI at h ⊢; simpa using h) ?_ ?_
  ·rintro k ρ w5 hk hck hlk ⟨g9,g42,g43,g0,g6,g8,h5⟩
   obtain ⟨x,hx⟩:∃ x,x=valK g k:=⟨_,rfl⟩
   have hxl:x < 64:=by
    have h1:=valK_lt g k
    have h2:2 ^ k≤2 ^ 5:=Nat.pow_le_pow_right (by omega) (by omega)
    omega
   rw [← hx] at h5
   have hl5:(pL T.vars p v x).length=n:=by rw [pL_len,hn]
   have hc5:=h5.own.cell nE_len (pL_get (p:=p) (x:=x) hvt) (o:=0) (by omega)
   rw [Nat.mul_one,Nat.add_zero] at hc5
   have hc5:w5.cell? ⟨ov.blk,v,none⟩=some (.int .i64 (x:Nat)):=hc5
   obtain ⟨y,hy⟩:∃ y,y=2 * x:=⟨_,rfl⟩
   have ey:(x:Int) * 2=(y:Int):=by omega
   have h5d:=h5.drew (Lcl.own.star (Lcl.own.star hLS))
   simp (disch:=omega) [g0,g8,g9,g43,hck,hlk,h5.own.idx,hl5,hc5,ey,wrap_i64]
   refine h5.store1 (x:=y) (Lcl.own.star hLS) nE_len nE_one (by rw [hl5]; omega) rfl fun w6 h6=>?_
   rw [pL_set] at h6
   simp only [↓wpT_nil,put_none,merge_nil,rangeQ_nrm]
   have h6s:=(h6.by Imp.dr).by Imp.dr
   have os6:=SpcA.obj h6s
   unfold spO at os6
   have hfv6:=SpcA.fv h6s
   have hfc6:=nE_cell hfv6 (firstL_at hvt)
   have hvf:(v:Int) < (firstL T.vars).length:=by simp [firstL]; omega
   have hbp:=bP_in hvn (show k < wd nn by omega)
   obtain ⟨p2,hp2⟩:∃ p,p=bP T.vars v+k:=⟨_,rfl⟩
   have ei1:(bP T.vars v:Int)+(k:Int)=(p2:Int):=by omega
   obtain ⟨p3,hp3⟩:∃ p,p=2 * p2:=⟨_,rfl⟩
   have ei2:2 * (p2:Int)=(p3:Int):=by omega
   have hbw:=(h6.by Imp.dr).own
   have hbl:((List.range (2 * nBits T.vars)).map p).length=2 * nBits T.vars:=by simp
   have hp3l:p3 < 2 * nBits T.vars:=by omega
   have hbc:=hbw.cell bv_len (show ((List.range (2 * nBits T.vars)).map p)[p3]?=some (p p3) by simp [hp3l]) (o:=0) (by omega)
   rw [Nat.mul_one,Nat.add_zero] at hbc
   have hbc:w6.cell? ⟨bw.blk,p3,none⟩=some (.bool (p p3)):=hbc
   have hgk:g k=p p3:=by rw [hg,hp3,hp2]
   have hp3i:(p3:Int) < 2 * (nBits T.vars:Nat):=by omega
   have hv2:valK g (k+1)=y+if p p3=true then 1 else 0:=by rw [valK_succ,hgk,← hx,hy]
   cases hb:p p3 with
   | true =>
    rw [hb] at hbc hv2
    rw [if_pos rfl] at hv2
    have hl6:(pL T.vars p v y).length=n:=by rw [pL_len,hn]
    have hc6:=h6.own.cell nE_len (pL_get (p:=p) (x:=y) hvt) (o:=0) (by omega)
    rw [Nat.mul_one,Nat.add_zero] at hc6
    have hc6:w6.cell? ⟨ov.blk,v,none⟩=some (.int .i64 (y:Nat)):=hc6
    obtain ⟨z,hz⟩:∃ z,z=y+1:=⟨_,rfl⟩
    have ez:(y:Int)+1=(z:Int):=by omega
    have h6d:=h6.drew (Lcl.own.star (Lcl.own.star hLS))
    simp (disch:=omega) [g0,g6,g8,g9,hck,hlk,cell_blk os6,hfv6.idx,hfc6,ei1,ei2,ez,wrap_i64,hbw.idx,hbl,hbc,h6.own.idx,hl6,hc6]
    refine h6.store1 (x:=z) (Lcl.own.star hLS) nE_len nE_one (by rw [hl6]; omega) rfl fun w7 h7=>?_
    rw [pL_set,hz,← hv2] at h7
    simp only [↓wpT_nil,put_none,merge_nil,rangeQ_nrm]
    simp [g9,g42,g43,hck,hlk]
    exact ⟨by simpa using g0,by simpa using g6,by simpa using g8,h7⟩
   | false =>
    rw [hb] at hbc hv2
    have hv2:valK g (k+1)=y:=hv2
    rw [← hv2] at h6
    simp (disch:=omega) [g0,g6,g8,g9,hck,hlk,cell_blk os6,hfv6.idx,hfc6,ei1,ei2,wrap_i64,hbw.idx,hbl,hbc,g42,g43]
    exact ⟨by simpa using g0,by simpa using g6,by simpa using g8,h6⟩
  ·rintro ρ w5 ⟨g9,g42,g43,g0,g6,g8,h5⟩
   have er:valK g W=rv T.vars p 0 v:=by
    unfold rv
    rw [hnd,← hW,hg]
    rfl
   rw [er,pL_next] at h5
   simp [g42,g43]
   exact ⟨by simp [g0],by simp [g6],by simp [g8],h5⟩
 rintro ρ w4 ⟨e0,e6,e8,h4⟩
 rw [hn,pL_end] at h4
 simp [e8]
 exact ⟨rs T.vars p 0,hst,hpt.2,SpcA.into (h4.by (Imp.un Imp.dr))⟩
end
end Go.Proofs.YtkhfdmelcpfgoaaGreat
end
