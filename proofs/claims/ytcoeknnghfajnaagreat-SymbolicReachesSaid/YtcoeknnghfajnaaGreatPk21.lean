/-
  A part of the proof of this claim's statement (SyCv, SyWM, SyWJ, SyWK, SyXA, SyXC, SyXE, SyAP, SyAQ): plain theorems; no conditions beyond those each names.
-/
import Derived.Test.YtcoeknnghfajnaaGreatPk12
import Derived.Test.YtcoeknnghfajnaaGreatPk20
import Derived.Test.YtcoeknnghfajnaaGreatPk19
import Derived.Test.YtcoeknnghfajnaaGreatPk11
import Derived.Test.YtcoeknnghfajnaaGreatPk15
set_option maxRecDepth 100000
set_option linter.unusedSimpArgs false
set_option linter.unusedVariables false
set_option linter.unusedSectionVars false
section
namespace Go.Sy
open Go.Bd
abbrev BFn:=(Nat→Bool)→Bool
def Dep (K:BFn) (t:Nat):Prop:=∃b,K (upd b t true)≠K (upd b t false)
def CovW (n:Nat) (W:BFn→Prop) (N:Nat):Prop:=∃L:List BFn,L.length≤N∧∀G,W G→∀t a,t < n→Dep (fun b=>G (pfx a t b)) t→(fun b=>G (pfx a t b)) ∈ L
theorem CovW.or {n N1 N2:Nat} {W1 W2:BFn→Prop} (h1:CovW n W1 N1) (h2:CovW n W2 N2):CovW n (fun G=>W1 G∨W2 G) (N1+N2):=by
 obtain ⟨L1,a1,b1⟩:=h1
 obtain ⟨L2,a2,b2⟩:=h2
 refine ⟨L1 ++ L2,by rw [List.length_append]; omega,fun G hG t a ht hd=>?_⟩
 rcases hG with h | h
 ·exact List.mem_append_left _ (b1 G h t a ht hd)
 ·exact List.mem_append_right _ (b2 G h t a ht hd)
theorem CovW.mono {n N N':Nat} {W W':BFn→Prop} (h:CovW n W N) (hw:∀G,W' G→W G) (hn:N≤N'):CovW n W' N':=by
 obtain ⟨L,a,b⟩:=h
 exact ⟨L,Nat.le_trans a hn,fun G hG=>b G (hw G hG)⟩
theorem CovW.none (n:Nat):CovW n (fun _=>False) 0:=⟨[],Nat.le_refl _,fun G h=>h.elim⟩
theorem CovW.each {n c:Nat} (g:Nat→BFn):∀k,(∀i,i < k→CovW n (fun G=>G=g i) c)→CovW n (fun G=>∃i,i < k∧G=g i) (k * c)
 | 0,_=>(CovW.none n).mono (fun G ⟨i,hi,_⟩=>by omega) (Nat.zero_le _)
 | k+1,h=>((CovW.each g k fun i hi=>h i (by omega)).or (h k (by omega))).mono (fun G ⟨i,hi,e⟩=>by
   by_cases hk:i=k
   ·subst hk; exact .inr e
   ·exact .inl ⟨i,by omega,e⟩) (by rw [Nat.succ_mul]; exact Nat.le_refl _)
theorem CovW.sum {n:Nat} (P:Nat→BFn→Prop) (c:Nat→Nat):∀k,(∀i,i < k→CovW n (P i) (c i))→CovW n (fun G=>∃i,i < k∧P i G) ((List.range k).map c).sum
 | 0,_=>(CovW.none n).mono (fun G ⟨i,hi,_⟩=>by omega) (Nat.zero_le _)
 | k+1,h=>((CovW.sum P c k fun i hi=>h i (by omega)).or (h k (by omega))).mono (fun G ⟨i,hi,e⟩=>by
   by_cases hk:i=k
   ·subst hk; exact .inr e
   ·exact .inl ⟨i,by omega,e⟩) (by rw [List.range_succ,List.map_append,List.sum_append]; simp)
section
variable {n:Nat} {ns:Ns}
theorem node_cof (w:Wf n ns) {z:Nat} (hz:Ref ns z) (h2:2≤z) {G:BFn} (h:IsC G fun b=>eval ns b z):∃t a,t < n∧(fun b=>eval ns b z)=(fun b=>G (pfx a t b))∧Dep (fun b=>G (pfx a t b)) t:=by
 have ht:=w.tv_var h2 hz
 obtain ⟨t,hte⟩:∃t,t=tv n ns z:=⟨_,rfl⟩
 rw [←hte] at ht
 have hne:(at_ n ns z).low≠(at_ n ns z).high:=by rw [at_ge h2 hz]; exact w.ne _ _
 have hd:Dep (fun b=>eval ns b z) t:=by
  apply Classical.byContradiction
  intro hn
  apply hne
  refine canon_aux w (z+1) _ _ (by have:=w.lt_low h2 hz; omega) (by have:=w.lt_high h2 hz; omega) (w.ref_low hz) (w.ref_high hz) fun a=>?_
  rw [←eval_low w h2 hz,←eval_high w h2 hz,←hte]
  apply Classical.byContradiction
  intro hx
  exact hn ⟨a,fun e=>hx e.symm⟩
 obtain ⟨k,a,e⟩:=h
 have e:∀b,eval ns b z=G (pfx a k b):=e
 by_cases hk:k≤t
 ·have e2:(fun b=>eval ns b z)=fun b=>G (pfx (fun i=>if i < k then a i else false) t b):=funext fun b=>by
   have e1:eval ns b z=eval ns (pfx (fun _=>false) t b) z:=eval_congr w hz fun i hi=>by
    unfold pfx
    rw [if_neg (by omega)]
   rw [e1,e]
   congr 1
   funext i
   simp only [pfx]
   by_cases h1:i < k
   ·rw [if_pos h1,if_pos (by omega),if_pos h1]
   ·rw [if_neg h1]
    by_cases h3:i < t
    ·rw [if_pos h3,if_pos h3,if_neg h1]
    ·rw [if_neg h3,if_neg h3]
  refine ⟨t,_,ht,e2,?_⟩
  rw [←e2]
  exact hd
 ·obtain ⟨b,hb⟩:=hd
  exfalso
  apply hb
  show eval ns (upd b t true) z=eval ns (upd b t false) z
  rw [e,e]
  congr 1
  funext i
  simp only [pfx]
  by_cases h1:i < k
  ·rw [if_pos h1,if_pos h1]
  ·rw [if_neg h1,if_neg h1,upd_ne (by omega),upd_ne (by omega)]
theorem cov_len {W:BFn→Prop} {N:Nat} {ns0:Ns} (w:Wf n ns) (hc:CovW n W N) (h:∀z,ns0.length+2≤z→z < ns.length+2→∃G,W G∧IsC G fun b=>eval ns b z):ns.length≤ns0.length+N:=by
 obtain ⟨L,hl,hL⟩:=hc
 have hn:((List.range (ns.length - ns0.length)).map fun i=>(fun b=>eval ns b (ns0.length+2+i):BFn)).Nodup:=by
  refine List.pairwise_map.2 (List.Pairwise.imp_of_mem ?_ (List.nodup_range (n:=ns.length - ns0.length)))
  intro i j hi hj hij e
  have hi:=List.mem_range.1 hi
  have hj:=List.mem_range.1 hj
  apply hij
  have:=canon_aux w (ns.length+2) (ns0.length+2+i) (ns0.length+2+j) (by omega) (by omega) (by unfold Ref; omega) (by unfold Ref; omega) fun a=>congrFun e a
  omega
 have:=@nodup_len BFn (fun a b=>Classical.propDecidable (a=b)) _ L hn fun x hx=>by
  obtain ⟨i,hi,rfl⟩:=List.mem_map.1 hx
  have hi:=List.mem_range.1 hi
  obtain ⟨G,g1,g2⟩:=h (ns0.length+2+i) (by omega) (by omega)
  obtain ⟨t,a,ht,e,hd⟩:=node_cof w (z:=ns0.length+2+i) (by unfold Ref; omega) (by omega) g2
  rw [e]
  exact hL G g1 t a ht hd
 simp at this
 omega
end
def XIn (s w:Nat) (G:BFn):Prop:=∀a b:Nat→Bool,(∀p,s≤p→p < s+w→a (2 * p)=b (2 * p))→G a=G b
theorem bits_of (a:Nat→Bool) (k:Nat):∃p,p < 2 ^ k∧∀i,i < k→a i=p.testBit (k - 1 - i) :=
 ⟨valK a k,valK_lt a k,(valK_eq k (valK a k) (valK_lt a k)).2 rfl⟩
theorem len_pats (f:Nat→Nat→BFn):∀w,((List.range w).flatMap fun k=>(List.range (2 ^ k)).map (f k)).length+1=2 ^ w
 | 0=>by simp
 | w+1=>by
  have:=len_pats f w
  rw [List.range_succ,List.flatMap_append,List.length_append,Nat.pow_succ]
  simp only [List.flatMap_cons,List.flatMap_nil,List.append_nil,List.length_map,List.length_range]
  omega
theorem cov_x {n s w:Nat} {G:BFn} (h:XIn s w G):CovW n (fun K=>K=G) (2 ^ w):=by
 refine ⟨(List.range w).flatMap fun k=>(List.range (2 ^ k)).map fun p=>fun b=>G (pfx (fun i=>p.testBit (k - 1 - (i / 2 - s))) (2 * (s+k)) b),by have:=len_pats (fun k p=>fun b=>G (pfx (fun i=>p.testBit (k - 1 - (i / 2 - s))) (2 * (s+k)) b)) w; omega,?_⟩
 rintro _ rfl t a ht ⟨b,hb⟩
 -- the variable is one of those
 have hin:∃k,k < w∧t=2 * (s+k):=by
  apply Classical.byContradiction
  intro hn
  apply hb
  refine h _ _ fun p h1 h2=>?_
  unfold pfx
  by_cases h3:2 * p < t
  ·rw [if_pos h3,if_pos h3]
  ·rw [if_neg h3,if_neg h3]
   by_cases h4:2 * p=t
   ·exact absurd ⟨p - s,by omega,by omega⟩ hn
   ·rw [upd_ne h4,upd_ne h4]
 obtain ⟨k,hk,rfl⟩:=hin
 obtain ⟨p,hp,hbits⟩:=bits_of (fun i=>a (2 * (s+i))) k
 refine List.mem_flatMap.2 ⟨k,List.mem_range.2 hk,List.mem_map.2 ⟨p,List.mem_range.2 hp,funext fun c=>h _ _ fun q h1 h2=>?_⟩⟩
 simp only [pfx]
 by_cases h3:2 * q < 2 * (s+k)
 ·rw [if_pos h3,if_pos h3]
  have:=hbits (q - s) (by omega)
  rw [show s+(q - s)=q by omega] at this
  rw [show 2 * q / 2=q by omega]
  exact this.symm
 ·rw [if_neg h3,if_neg h3]
def Gtd (m:Nat) (G:BFn):Prop:=(∀a,G a=true→∀p,p < m→a (2 * p+1)=false)∧∀a b:Nat→Bool,(∀p,p < m→a (2 * p)=b (2 * p)∧a (2 * p+1)=b (2 * p+1))→G a=G b
def cubeB (l:List (Nat × Bool)) (a:Nat→Bool):Bool:=l.all fun p=>a p.1 == p.2
theorem cov_any {n:Nat} (G:BFn):CovW n (fun K=>K=G) (2 ^ n):=by
 refine ⟨(List.range n).flatMap fun k=>(List.range (2 ^ k)).map fun p=>fun b=>G (pfx (fun i=>p.testBit (k - 1 - i)) k b),by have:=len_pats (fun k p=>fun b=>G (pfx (fun i=>p.testBit (k - 1 - i)) k b)) n; omega,?_⟩
 rintro _ rfl t a ht _
 obtain ⟨p,hp,hbits⟩:=bits_of a t
 refine List.mem_flatMap.2 ⟨t,List.mem_range.2 ht,List.mem_map.2 ⟨p,List.mem_range.2 hp,funext fun c=>?_⟩⟩
 congr 1
 funext i
 simp only [pfx]
 by_cases h:i < t
 ·rw [if_pos h,if_pos h,hbits i h]
 ·rw [if_neg h,if_neg h]
end Go.Sy
namespace Go.Sy
open Go.Bd
theorem CovW.eachW {n c:Nat} (P:Nat→BFn→Prop):∀k,(∀i,i < k→CovW n (P i) c)→CovW n (fun G=>∃i,i < k∧P i G) (k * c)
 | 0,_=>(CovW.none n).mono (fun G ⟨i,hi,_⟩=>by omega) (Nat.zero_le _)
 | k+1,h=>((CovW.eachW P k fun i hi=>h i (by omega)).or (h k (by omega))).mono (fun G ⟨i,hi,e⟩=>by
   by_cases hk:i=k
   ·subst hk; exact .inr e
   ·exact .inl ⟨i,by omega,e⟩) (by rw [Nat.succ_mul]; exact Nat.le_refl _)
theorem cov_uniq {n C:Nat} {P:BFn→Prop} (hu:∀G G',P G→P G'→G=G') (hC:∀G,P G→CovW n (fun K=>K=G) C):CovW n P C:=by
 by_cases h:∃G,P G
 ·obtain ⟨G,hG⟩:=h
  exact (hC G hG).mono (fun K hK=>hu K G hK hG) (Nat.le_refl _)
 ·exact (CovW.none n).mono (fun G hG=>h ⟨G,hG⟩) (Nat.zero_le _)
theorem sum_pow (N:Nat):∀m,((List.range m).map fun k=>2 ^ k * N).sum≤2 ^ m * N
 | 0=>by simp
 | m+1=>by
  have:=sum_pow N m
  rw [List.range_succ,List.map_append,List.sum_append,Nat.pow_succ,Nat.mul_right_comm,Nat.mul_two]
  simp
  exact this
theorem cov_isc {n N:Nat} {F:BFn} (hF:∀a b:Nat→Bool,(∀i,i < n→a i=b i)→F a=F b) (P:BFn→BFn→Prop) (h:∀H,IsC F H→CovW n (P H) N):CovW n (fun G=>∃H,IsC F H∧P H G) (2 ^ (n+1) * N):=by
 have h1:=CovW.sum (n:=n) (fun k G=>∃p,p < 2 ^ k∧P (fun b=>F (pfx (fun i=>p.testBit (k - 1 - i)) k b)) G) (fun k=>2 ^ k * N) (n+1) fun k _=>CovW.eachW _ _ fun p _=>h _ ⟨k,_,fun b=>rfl⟩
 refine h1.mono (fun G=>?_) (sum_pow N (n+1))
 rintro ⟨H,⟨k,a,e⟩,hP⟩
 have key:∀m,m≤n→(∀b,H b=F (pfx a m b))→∃i,i < n+1∧∃p,p < 2 ^ i∧P (fun b=>F (pfx (fun j=>p.testBit (i - 1 - j)) i b)) G:=fun m hm e=>by
  obtain ⟨p,hp,hb⟩:=bits_of a m
  refine ⟨m,by omega,p,hp,?_⟩
  have:(fun b=>F (pfx (fun j=>p.testBit (m - 1 - j)) m b))=H:=funext fun b=>by
   rw [e]
   refine hF _ _ fun i _=>?_
   unfold pfx
   by_cases h3:i < m
   ·rw [if_pos h3,if_pos h3,hb i h3]
   ·rw [if_neg h3,if_neg h3]
  rw [this]
  exact hP
 by_cases hk:k≤n
 ·exact key k hk e
 ·refine key n (Nat.le_refl _) fun b=>?_
  rw [e]
  refine hF _ _ fun i hi=>?_
  unfold pfx
  rw [if_pos (by omega),if_pos hi]
end Go.Sy
end
section
namespace Go.Proofs.YtcoeknnghfajnaaGreat
open Go Go.W Go.Tk Go.Rx Go.Bd Go.Sy Go.Maps
def LitS (vars:List Nat) (G:BFn):Prop:=∃i,i < 2 * nBits vars∧(G=(fun a=>a i)∨G=fun a=>!a i)
def VlS (vars:List Nat) (v x nx:Nat) (G:BFn):Prop:=∃j,j < wd (vars.getD v 0)∧G=vlB vars v x nx j
def FacS (vars:List Nat) (l:List Go.Tk.Fc) (G:BFn):Prop:=(∃i,i < l.length∧VlS vars (l.getD i (0,0)).1 (l.getD i (0,0)).2 0 G)∨∃j,j < l.length∧G=fcB vars l j
def SaS (vars:List Nat) (v:Nat) (G:BFn):Prop:=∃j,j < wd (vars.getD v 0)∧(G=(fun a=>a (2 * (bP vars v+j)) && a (2 * (bP vars v+j)+1))∨G=(fun a=>!a (2 * (bP vars v+j)) && !a (2 * (bP vars v+j)+1)) ∨
 G=(fun a=>(a (2 * (bP vars v+j)) && a (2 * (bP vars v+j)+1)) || (!a (2 * (bP vars v+j)) && !a (2 * (bP vars v+j)+1)))∨G=saB vars v j)
def EfS (vars:List Nat) (o:No) (v j:Nat) (x:Nf) (G:BFn):Prop:=FacS vars x.cnd G∨VlS vars v x.x 1 G∨G=(fun a=>leB vars o v (j+1) a && hdB (rs vars a 0) x.cnd) ∨
 G=(fun a=>(leB vars o v (j+1) a && hdB (rs vars a 0) x.cnd) && decide (rv vars a 1 v=x.x))∨G=ouB vars o v j∨G=(fun a=>!hdB (rs vars a 0) x.cnd)∨G=leB vars o v j
def ChS (vars:List Nat) (o:No) (v:Nat) (G:BFn):Prop:=SaS vars v G∨G=(fun a=>leB vars o v 0 a && decide (rv vars a 0 v=rv vars a 1 v))∨G=(fun a=>decide (rv vars a 1 v=chgV o (rs vars a 0) v)) ∨
 ∃j,j < o.effs.length∧∃x,o.effs[j]? = some x∧x.v=v∧EfS vars o v j x G
def RelS (T:Nt) (o:No) (G:BFn):Prop:=LitS T.vars G∨(∃v,v < T.vars.length∧ChS T.vars o v G)∨(∃j,j < T.vars.length∧G=rlB T o j)∨FacS T.vars o.pre G∨G=fun a=>hdB (rs T.vars a 0) o.pre && rlB T o 0 a
def NewS (T:Nt) (G:BFn):Prop:=LitS T.vars G∨(∃v,v < T.vars.length∧∃x,x < T.vars.getD v 0∧(VlS T.vars v x 0 G∨G=fun a=>decide (rv T.vars a 0 v < x+1)))∨∃k,k < T.vars.length∧G=okP T.vars (k+1)
def CtS (T:Nt) (P:List Nat→Bool) (G:BFn):Prop:=LitS T.vars G∨(∃j,j < nBits T.vars∧G=zB (nBits T.vars) j)∨G=ctF T.vars P
def inn (T:Nt) (nx:Nat):Nat→Bool:=inB (insOf (2 * nBits T.vars) (hfL nx (2 * nBits T.vars)))
def ImgS (T:Nt) (o:No) (P:List Nat→Bool) (G:BFn):Prop:=RelS T o G∨G=imA T o P∨(∃H,IsC (imA T o P) H∧∀a,G a=true↔qS 1 (inn T 0) H a) ∨
 ∃X,(∀a,X a=true↔qS 1 (inn T 0) (imA T o P) a)∧∃H,IsC X H∧G=fun b=>H (sgA (2 * nBits T.vars) 1 b)
section
variable {W:BFn→Prop}
theorem litW {vars:List Nat} (h:∀G,LitS vars G→W G):LitW vars W:=fun i hi=>⟨h _ ⟨i,hi,.inl rfl⟩,h _ ⟨i,hi,.inr rfl⟩⟩
theorem vlW {vars:List Nat} {v x nx:Nat} (h:∀G,VlS vars v x nx G→W G):VlW vars v x nx W:=fun j hj=>h _ ⟨j,hj,rfl⟩
theorem facW {vars:List Nat} {l:List Go.Tk.Fc} (h:∀G,FacS vars l G→W G):FcW vars l W:=by
 refine ⟨fun f hf=>vlW fun G hG=>?_,fun j hj=>h _ (.inr ⟨j,hj,rfl⟩)⟩
 obtain ⟨i,hi,rfl⟩:=List.getElem_of_mem hf
 refine h _ (.inl ⟨i,hi,?_⟩)
 simpa [List.getD,hi] using hG
theorem chW {vars:List Nat} {o:No} {v:Nat} (h:∀G,ChS vars o v G→W G):ChW vars o v W:=by
 have he:∀(j:Nat) (x:Nf),o.effs[j]? = some x→x.v=v→∀G,EfS vars o v j x G→W G:=fun j x hx hv G hG=>h _ (.inr (.inr (.inr ⟨j,(List.getElem?_eq_some_iff.1 hx).1,x,hx,hv,hG⟩)))
 exact ⟨fun j hj=>⟨h _ (.inl ⟨j,hj,.inl rfl⟩),h _ (.inl ⟨j,hj,.inr (.inl rfl)⟩),h _ (.inl ⟨j,hj,.inr (.inr (.inl rfl))⟩),h _ (.inl ⟨j,hj,.inr (.inr (.inr rfl))⟩)⟩,h _ (.inr (.inl rfl)),h _ (.inr (.inr (.inl rfl))),
  fun j x hx hv=>facW fun G hG=>he j x hx hv G (.inl hG),fun j x hx hv=>vlW fun G hG=>he j x hx hv G (.inr (.inl hG)),fun j x hx hv=>he j x hx hv _ (.inr (.inr (.inl rfl))),fun j x hx hv=>he j x hx hv _ (.inr (.inr (.inr (.inl rfl)))),
  fun j x hx hv=>he j x hx hv _ (.inr (.inr (.inr (.inr (.inl rfl))))),fun j x hx hv=>he j x hx hv _ (.inr (.inr (.inr (.inr (.inr (.inl rfl)))))),fun j x hx hv=>he j x hx hv _ (.inr (.inr (.inr (.inr (.inr (.inr rfl))))))⟩
theorem relW {T:Nt} {o:No} (h:∀G,RelS T o G→W G):RelW T o W :=
 ⟨litW fun G hG=>h _ (.inl hG),fun v hv=>chW fun G hG=>h _ (.inr (.inl ⟨v,hv,hG⟩)),fun j hj=>h _ (.inr (.inr (.inl ⟨j,hj,rfl⟩))),facW fun G hG=>h _ (.inr (.inr (.inr (.inl hG)))),h _ (.inr (.inr (.inr (.inr rfl))))⟩
theorem newW {T:Nt} (h:∀G,NewS T G→W G):NewW T W :=
 ⟨litW fun G hG=>h _ (.inl hG),fun v x hv hx=>vlW fun G hG=>h _ (.inr (.inl ⟨v,hv,x,hx,.inl hG⟩)),fun v x hv hx=>h _ (.inr (.inl ⟨v,hv,x,hx,.inr rfl⟩)),fun k hk=>h _ (.inr (.inr ⟨k,hk,rfl⟩))⟩
theorem imgW {T:Nt} {o:No} {P:List Nat→Bool} (h:∀G,ImgS T o P G→W G):ImgW T o P W :=
 ⟨relW fun G hG=>h _ (.inl hG),h _ (.inr (.inl rfl)),fun H hH G hG=>h _ (.inr (.inr (.inl ⟨H,hH,hG⟩))),fun X hX H hH=>h _ (.inr (.inr (.inr ⟨X,hX,H,hH,rfl⟩)))⟩
end
theorem cov_opt {n N:Nat} {α:Type} {l:List α} {j:Nat} {P:α→BFn→Prop} (h:∀x,l[j]? = some x→CovW n (P x) N):CovW n (fun G=>∃x,l[j]? = some x∧P x G) N:=by
 cases hx:l[j]? with
 | none=>exact (CovW.none n).mono (fun G ⟨x,h,_⟩=>by cases h) (Nat.zero_le _)
 | some y=>exact (h y hx).mono (fun G ⟨x,h,hP⟩=>by cases h; exact hP) (Nat.le_refl _)
section
variable {n C:Nat} (hC:∀G:BFn,CovW n (fun K=>K=G) C)
include hC
theorem covLit (vars:List Nat):CovW n (LitS vars) (2 * nBits vars * (C+C)):=CovW.eachW _ _ fun i _=>(hC _).or (hC _)
theorem covVl (vars:List Nat) (v x nx:Nat):CovW n (VlS vars v x nx) (6 * C):=(CovW.eachW (fun j G=>G=vlB vars v x nx j) _ fun j _=>hC _).mono (fun _ h=>h) (Nat.mul_le_mul_right _ (wd_le _))
theorem covFac (vars:List Nat) (l:List Go.Tk.Fc):CovW n (FacS vars l) (l.length * (6 * C)+l.length * C):=(CovW.eachW _ _ fun i _=>covVl hC _ _ _ _).or (CovW.eachW (fun j G=>G=fcB vars l j) _ fun j _=>hC _)
theorem covSa (vars:List Nat) (v:Nat):CovW n (SaS vars v) (6 * (C+(C+(C+C)))):=(CovW.eachW _ _ fun j _=>(hC _).or ((hC _).or ((hC _).or (hC _)))).mono (fun _ h=>h) (Nat.mul_le_mul_right _ (wd_le _))
theorem covEf (vars:List Nat) (o:No) (v j:Nat) (x:Nf) {V:Nat} (hx:x.cnd.length≤V):CovW n (EfS vars o v j x) (V * (7 * C)+11 * C) :=
 ((covFac hC vars x.cnd).or ((covVl hC vars v x.x 1).or ((hC _).or ((hC _).or ((hC _).or ((hC _).or (hC _))))))).mono (fun _ h=>h) (by
  have:x.cnd.length * (7 * C)≤V * (7 * C):=Nat.mul_le_mul_right _ hx
  have e:x.cnd.length * (7 * C)=x.cnd.length * (6 * C)+x.cnd.length * C:=by rw [←Nat.mul_add]; congr 1; omega
  omega)
theorem covCh (vars:List Nat) (o:No) (v:Nat) {V:Nat} (hx:∀x ∈ o.effs,x.cnd.length≤V):CovW n (ChS vars o v) (26 * C+o.effs.length * (V * (7 * C)+11 * C)) :=
 ((covSa hC vars v).or ((hC _).or ((hC _).or (CovW.eachW (fun j G=>∃x,o.effs[j]? = some x∧x.v=v∧EfS vars o v j x G) _ fun j _=>cov_opt fun x h=>(covEf hC vars o v j x (hx x (List.mem_of_getElem? h))).mono (fun _ h=>h.2) (Nat.le_refl _))))).mono (fun _ h=>h) (by omega)
theorem covRel (T:Nt) (o:No) {V:Nat} (hv:T.vars.length≤V) (hp:o.pre.length≤V) (hx:∀x ∈ o.effs,x.cnd.length≤V):CovW n (RelS T o) (2 * nBits T.vars * (C+C)+(V * (26 * C+o.effs.length * (V * (7 * C)+11 * C))+(V * C+(V * (7 * C)+C)))) :=
 ((covLit hC T.vars).or ((CovW.eachW _ _ fun v _=>covCh hC T.vars o v hx).or ((CovW.eachW (fun j G=>G=rlB T o j) _ fun j _=>hC _).or ((covFac hC T.vars o.pre).or (hC _))))).mono (fun _ h=>h) (by
  have h1:T.vars.length * (26 * C+o.effs.length * (V * (7 * C)+11 * C))≤V * (26 * C+o.effs.length * (V * (7 * C)+11 * C)):=Nat.mul_le_mul_right _ hv
  have h2:T.vars.length * C≤V * C:=Nat.mul_le_mul_right _ hv
  have h3:o.pre.length * (7 * C)≤V * (7 * C):=Nat.mul_le_mul_right _ hp
  have e:o.pre.length * (7 * C)=o.pre.length * (6 * C)+o.pre.length * C:=by rw [←Nat.mul_add]; congr 1; omega
  omega)
theorem covNew (T:Nt) (h64:∀n ∈ T.vars,n≤64):CovW n (NewS T) (2 * nBits T.vars * (C+C)+(T.vars.length * (64 * (7 * C))+T.vars.length * C)) :=
 (covLit hC T.vars).or ((CovW.eachW _ _ fun v hv=>(CovW.eachW (fun x G=>VlS T.vars v x 0 G∨G=fun a=>decide (rv T.vars a 0 v < x+1)) _ fun x _=>(covVl hC T.vars v x 0).or (hC _)).mono (fun _ h=>h) (by
  have:=h64 (T.vars.getD v 0) (by simp [List.getD,List.getElem?_eq_getElem hv])
  have:T.vars.getD v 0 * (6 * C+C)≤64 * (6 * C+C):=Nat.mul_le_mul_right _ this
  omega)).or (CovW.eachW (fun k G=>G=okP T.vars (k+1)) _ fun k _=>hC _))
theorem covCt (T:Nt) (P:List Nat→Bool):CovW n (CtS T P) (2 * nBits T.vars * (C+C)+(nBits T.vars * C+C)):=(covLit hC T.vars).or ((CovW.eachW (fun j G=>G=zB (nBits T.vars) j) _ fun j _=>hC _).or (hC _))
end
theorem rs_fin {vars:List Nat} {a b:Nat→Bool} {nx:Nat} (hn:nx < 2) (h:∀i,i < 2 * nBits vars→a i=b i):rs vars a nx=rs vars b nx:=rs_congr fun p hp=>h _ (by omega)
theorem setF_fin {vars:List Nat} {P:List Nat→Bool} {a b:Nat→Bool} (h:∀i,i < 2 * nBits vars→a i=b i):setF vars P a=setF vars P b:=by
 unfold setF
 rw [rs_fin (by omega) h,okB_congr (rs_fin (by omega) h)]
theorem relB_fin {T:Nt} {o:No} {a b:Nat→Bool} (h:∀i,i < 2 * nBits T.vars→a i=b i):relB T o a=relB T o b:=by
 unfold relB
 rw [rs_fin (by omega) h,rs_fin (nx:=1) (by omega) h]
theorem imA_fin {T:Nt} {o:No} {P:List Nat→Bool} {a b:Nat→Bool} (h:∀i,i < 2 * nBits T.vars→a i=b i):imA T o P a=imA T o P b:=by
 unfold imA
 rw [setF_fin h,relB_fin h]
theorem bool_iff {x y:Bool} (h:x=true↔y=true):x=y:=by
 cases x <;> cases y <;> simp_all
theorem ex_uniq {i:Nat→Bool} {H:BFn} (G G':BFn) (h:∀a,G a=true↔qS 1 i H a) (h':∀a,G' a=true↔qS 1 i H a):G=G':=funext fun a=>bool_iff ((h a).trans (h' a).symm)
theorem ex_fin {T:Nt} {nx:Nat} {F X:BFn} (hF:∀a b:Nat→Bool,(∀i,i < 2 * nBits T.vars→a i=b i)→F a=F b) (hX:∀a,X a=true↔qS 1 (inn T nx) F a) {a b:Nat→Bool} (h:∀i,i < 2 * nBits T.vars→a i=b i):X a=X b:=by
 have key:∀{a b:Nat→Bool},(∀i,i < 2 * nBits T.vars→a i=b i)→qS 1 (inn T nx) F a→qS 1 (inn T nx) F b:=fun {a b} h hq=>by
  unfold qS at hq ⊢
  rw [if_pos rfl] at hq ⊢
  obtain ⟨c,h1,h2⟩:=hq
  refine ⟨fun i=>if i < 2 * nBits T.vars then c i else b i,fun j hj=>?_,?_⟩
  ·show (if j < 2 * nBits T.vars then c j else b j)=b j
   by_cases hjn:j < 2 * nBits T.vars
   ·rw [if_pos hjn,h1 j hj,h j hjn]
   ·rw [if_neg hjn]
  ·rw [←h2]
   exact hF _ _ fun i hi=>by
    show (if i < 2 * nBits T.vars then c i else b i)=c i
    rw [if_pos hi]
 exact bool_iff ⟨fun h1=>(hX b).2 (key h ((hX a).1 h1)),fun h1=>(hX a).2 (key (fun i hi=>(h i hi).symm) ((hX b).1 h1))⟩
theorem covImg {C:Nat} (T:Nt) (o:No) (P:List Nat→Bool) (hC:∀G:BFn,CovW (2 * nBits T.vars) (fun K=>K=G) C) {N:Nat} (hR:CovW (2 * nBits T.vars) (RelS T o) N) :
  CovW (2 * nBits T.vars) (ImgS T o P) (N+(C+(2 ^ (2 * nBits T.vars+1) * C+2 ^ (2 * nBits T.vars+1) * C))):=by
 refine hR.or ((hC _).or (CovW.or ?_ ?_))
 ·exact cov_isc (fun a b h=>imA_fin h) (fun H G=>∀a,G a=true↔qS 1 (inn T 0) H a) fun H _=>cov_uniq ex_uniq fun G _=>hC G
 ·by_cases hX:∃X:BFn,∀a,X a=true↔qS 1 (inn T 0) (imA T o P) a
  ·obtain ⟨X,hX⟩:=hX
   refine (cov_isc (n:=2 * nBits T.vars) (F:=X) (fun a b h=>ex_fin (fun a b h=>imA_fin h) hX h) (fun H G=>G=fun b=>H (sgA (2 * nBits T.vars) 1 b)) fun H _=>hC _).mono (fun G hG=>?_) (Nat.le_refl _)
   obtain ⟨Y,hY,H,hH,e⟩:=hG
   have:Y=X:=ex_uniq _ _ hY hX
   subst this
   exact ⟨H,hH,e⟩
  ·exact (CovW.none _).mono (fun G ⟨X,h,_⟩=>hX ⟨X,h⟩) (Nat.zero_le _)
def Run (n lim N:Nat) (ns:Ns):Prop:=∃W:BFn→Prop,Stp n lim W false [] false ns∧CovW n W N
theorem Run.start (n lim:Nat):Run n lim 0 []:=⟨fun _=>False,Stp.refl (Wf.nil n) (Nat.zero_le _),CovW.none n⟩
theorem Run.step {n lim N N1:Nat} {W:BFn→Prop} {e:Bool} {ns ns':Ns} (h:Run n lim N ns) (hs:Stp n lim W false ns e ns') (hc:CovW n W N1) (hl:N+N1 < lim):e=false∧Run n lim (N+N1) ns':=by
 obtain ⟨W0,h0,c0⟩:=h
 have h1:Stp n lim (fun G=>W0 G∨W G) false [] e ns':=(h0.mono fun G hG=>.inl hG).trans (hs.mono fun G hG=>.inr hG)
 have hc1:=c0.or hc
 have hlen:=cov_len (ns0:=[]) h1.ext.wf hc1 h1.new
 have:e=false:=by
  cases e with
  | false=>rfl
  | true =>
   have:=h1.full rfl rfl
   simp at hlen
   omega
 subst this
 exact ⟨rfl,_,h1,hc1⟩
end Go.Proofs.YtcoeknnghfajnaaGreat
end
section
namespace Go.Proofs.YtcoeknnghfajnaaGreat
open Go Go.W Go.Tk Go.Rx Go.Bd Go.Sy Go.Maps
theorem apS_sk {o o2:No} (h:o.effs.map skE=o2.effs.map skE) (s:List Nat):apS o s=apS o2 s:=by
 have hl:=congrArg List.length h
 rw [List.length_map,List.length_map] at hl
 have key:∀k,k≤o.effs.length→apK o s k=apK o2 s k:=by
  intro k hk
  induction k with
  | zero=>rfl
  | succ k ih =>
   have ih:=ih (by omega)
   obtain ⟨e,he⟩:∃e,o.effs[k]? = some e:=⟨_,List.getElem?_eq_getElem (by omega)⟩
   obtain ⟨e2,he2⟩:∃e,o2.effs[k]? = some e:=⟨_,List.getElem?_eq_getElem (by omega)⟩
   have hs:skE e=skE e2:=by
    have:=congrArg (fun l=>l[k]?) h
    simpa [he,he2] using this
   unfold skE at hs
   simp only [Prod.mk.injEq] at hs
   rw [apK_succ he,apK_succ he2,ih,hs.1,hs.2.1,hs.2.2]
 unfold apS
 rw [←hl]
 exact key _ (Nat.le_refl _)
theorem Alk.sk {T T':Nt} (h:Alk T T') {i:Nat} {o:No} (ho:T.ops[i]? = some o):∃o',T'.ops[i]? = some o'∧o'.pre=o.pre∧(∀s,apS o' s=apS o s)∧o'.effs.length=o.effs.length:=by
 have:=congrArg (fun l=>l[i]?) h.ops
 simp only [List.getElem?_map,ho,Option.map_some] at this
 cases h2:T'.ops[i]? with
 | none=>rw [h2] at this; cases this
 | some o2 =>
  rw [h2] at this
  simp only [Option.map_some,Option.some.injEq] at this
  unfold skO at this
  simp only [Prod.mk.injEq] at this
  have hl:=congrArg List.length this.2.2.2
  rw [List.length_map,List.length_map] at hl
  exact ⟨o2,rfl,this.2.2.1,apS_sk this.2.2.2,hl⟩
theorem imgP_alk {T T':Nt} {o o':No} (h:Alk T T') (hp:o'.pre=o.pre) (hs:∀s,apS o' s=apS o s) (P:List Nat→Bool):imgP T' o' P=imgP T o P:=by
 funext s
 unfold imgP
 rw [h.vars,hp]
 simp only [hs]
def exO (pv ev wv:Cell1):No:=⟨ByteArray.empty,0,pv,[(0,0)],ev,[⟨⟨.slice none 0 0,rfl⟩,[],0,1⟩,⟨wv,[(1,1)],1,2⟩]⟩
def exT (vv nv ov pv ev wv:Cell1):Nt:=⟨vv,nv,⟨.slice none 0 0,rfl⟩,ov,[2,3],[0,0],[],[exO pv ev wv]⟩
theorem exT_g {vv nv ov pv ev wv:Cell1}:NtG (exT vv nv ov pv ev wv):=by
 refine ⟨by simp [exT],by simp [exT],by simp [exT],by simp [exT],fun i hi=>?_,⟨by simp [exT],by simp [exT]⟩,fun o ho=>?_⟩
 ·have:i=0∨i=1:=by simp [exT] at hi; omega
  rcases this with rfl | rfl <;> simp [exT]
 ·simp [exT] at ho
  subst ho
  refine ⟨by simp [exO],by simp [exO],⟨by simp [exO,exT],by simp [exO]⟩,fun e he=>?_,fun e he=>?_⟩
  ·simp [exO] at he
   rcases he with rfl | rfl
   ·exact ⟨by simp,by simp⟩
   ·exact ⟨by simp [exT],by simp⟩
  ·simp [exO] at he
   rcases he with rfl | rfl <;> simp [exT]
theorem exT_good {vv nv ov pv ev wv:Cell1}:goodB (exT vv nv ov pv ev wv).raw=true:=by
 rfl
set_option maxHeartbeats 1000000 in
theorem example_spec {w w1:World} {F:List Nat} {B:Asr} (hB:Lcl B) (h:At w F B w1):Calls Tryz.prog 26 [].toArray w1 fun e w'=>∃x,e=.returned x∧∃vv nv ov pv ev wv,x=ntV (exT vv nv ov pv ev wv)∧At w F (Star (TskA (exT vv nv ov pv ev wv)) B) w':=by
 refine enter Tryz.func26 mixed low26 (Nat.le_of_ble_eq_true rfl) ?_
 simp only [L26]
 have e0:∀(w:World) (o:Obj),(w.alloc o).heap.size=w.heap.size+1:=fun w o=>by simp
 obtain ⟨rb,hrb⟩:∃rb,rb=w1.heap.size:=⟨_,rfl⟩
 have a1:At w F (Star (ObjA rb (.cells #[.slice none 0 0,.slice none 0 0,.slice none 0 0,.slice none 0 0] 26 (0,0))) B) (w1.alloc (.cells #[.slice none 0 0,.slice none 0 0,.slice none 0 0,.slice none 0 0] 26 (0,0))):=by rw [hrb]; exact h.alloc _ hB
 have a2:=a1.lit (xs:=[2,3]) (enc:=nE) (E:=3) (sz:=1) (cs:=#[.int .i64 2,.int .i64 3]) (m:=2) (Lcl.obj.star hB) (by simp [nE]) nE_len (by simp [maxLen]) rfl
 have a3:=a2.lit (xs:=[0,0]) (enc:=nE) (E:=3) (sz:=1) (cs:=#[.int .i64 0,.int .i64 0]) (m:=2) (Lcl.own.star (Lcl.obj.star hB)) (by simp [nE]) nE_len (by simp [maxLen]) rfl
 have a4:=a3.lit (xs:=[((0,0):Go.Tk.Fc)]) (enc:=fcE) (E:=85) (sz:=2) (cs:=#[.int .i64 0,.int .i64 0]) (m:=1) (Lcl.own.star (Lcl.own.star (Lcl.obj.star hB))) (by simp [fcE]) fcE_len (by simp [maxLen]) rfl
 have a5:=a4.lit (xs:=[((1,1):Go.Tk.Fc)]) (enc:=fcE) (E:=85) (sz:=2) (cs:=#[.int .i64 1,.int .i64 1]) (m:=1) (Lcl.own.star (Lcl.own.star (Lcl.own.star (Lcl.obj.star hB)))) (by simp [fcE]) fcE_len (by simp [maxLen]) rfl
 simp only [e0,←hrb] at a2 a3 a4 a5
 obtain ⟨vv,hvv⟩:∃vv,vv=Value.slice (some ⟨rb+1,0,none⟩) 2 2:=⟨_,rfl⟩
 obtain ⟨nv,hnv⟩:∃nv,nv=Value.slice (some ⟨rb+1+1,0,none⟩) 2 2:=⟨_,rfl⟩
 obtain ⟨pv,hpv⟩:∃pv,pv=Value.slice (some ⟨rb+1+1+1,0,none⟩) 1 1:=⟨_,rfl⟩
 obtain ⟨wv,hwv⟩:∃wv,wv=Value.slice (some ⟨rb+1+1+1+1,0,none⟩) 1 1:=⟨_,rfl⟩
 obtain ⟨ev,hev⟩:∃ev,ev=Value.slice (some ⟨rb+1+1+1+1+1,0,none⟩) 2 2:=⟨_,rfl⟩
 obtain ⟨ov,hov⟩:∃ov,ov=Value.slice (some ⟨rb+1+1+1+1+1+1,0,none⟩) 1 1:=⟨_,rfl⟩
 have o1:oneC vv=true:=by rw [hvv]; rfl
 have o2:oneC nv=true:=by rw [hnv]; rfl
 have o3:oneC pv=true:=by rw [hpv]; rfl
 have o4:oneC wv=true:=by rw [hwv]; rfl
 have o5:oneC ev=true:=by rw [hev]; rfl
 have o6:oneC ov=true:=by rw [hov]; rfl
 rw [←hvv,←hnv,←hpv,←hwv] at a5
 have hL5:Lcl (Star (OwnA wv 85 2 fcE [((1,1):Go.Tk.Fc)]) (Star (OwnA pv 85 2 fcE [((0,0):Go.Tk.Fc)]) (Star (OwnA nv 3 1 nE [0,0]) (Star (OwnA vv 3 1 nE [2,3]) (Star (ObjA rb (.cells #[.slice none 0 0,.slice none 0 0,.slice none 0 0,.slice none 0 0] 26 (0,0))) B))))):=Lcl.own.star (Lcl.own.star (Lcl.own.star (Lcl.own.star (Lcl.obj.star hB))))
 have a6:=a5.lit (xs:=[(⟨⟨.slice none 0 0,rfl⟩,[],0,1⟩:Nf),⟨⟨wv,o4⟩,[(1,1)],1,2⟩]) (enc:=nfE) (E:=111) (sz:=3) (cs:=#[.slice none 0 0,.int .i64 0,.int .i64 1,wv,.int .i64 1,.int .i64 2]) (m:=2) hL5 (by simp [nfE]) nfE_len (by simp [maxLen]) rfl
 simp only [e0,←hrb] at a6
 rw [←hev] at a6
 have a7:=a6.lit (xs:=[exO ⟨pv,o3⟩ ⟨ev,o5⟩ ⟨wv,o4⟩]) (enc:=noE) (E:=66) (sz:=4) (cs:=#[.string ByteArray.empty,.int .i64 0,pv,ev]) (m:=1) (Lcl.own.star hL5) (by simp [noE,exO]) noE_len (by simp [maxLen]) rfl
 simp only [e0,←hrb] at a7
 rw [←hov] at a7
 simp [rowOf,←hrb]
 rw [←hvv,←hnv,←hpv,←hwv,←hev,←hov]
 refine (a7.by Imp.fr7).st (by repeat' (first | exact hB | exact Lcl.own | apply Lcl.star)) (by simp) (by simp [o1,o2,o6]) fun w8 h8=>?_
 simp
 refine postL_c1 ag_26 (by simp) h8.obj (by simp) rfl ?_
 have hf:=h8.by Imp.dr
 have hL8:Lcl (Star (OwnA ov 66 4 noE [exO ⟨pv,o3⟩ ⟨ev,o5⟩ ⟨wv,o4⟩]) (Star (OwnA ev 111 3 nfE [(⟨⟨.slice none 0 0,rfl⟩,[],0,1⟩:Nf),⟨⟨wv,o4⟩,[(1,1)],1,2⟩]) (Star (OwnA wv 85 2 fcE [((1,1):Go.Tk.Fc)]) (Star (OwnA pv 85 2 fcE [((0,0):Go.Tk.Fc)]) (Star (OwnA nv 3 1 nE [0,0]) (Star (OwnA vv 3 1 nE [2,3]) B)))))):=by repeat' (first | exact hB | exact Lcl.own | apply Lcl.star)
 have g1:=VwsA.nil (enc:=fcE) hL8 hf
 have g2:=g1.nil (E:=85) (sz:=2) (enc:=fcE) (Lcl.vws.star hL8)
 have g3:=g2.by (Imp.trans Imp.ow (VwsA.add rfl))
 have g4:=(g3.by Imp.fr4).by (Imp.trans Imp.ow (VwsA.add o4))
 have g5:=VwsA.nil (enc:=nfE) (by repeat' (first | exact hB | exact Lcl.own | exact Lcl.vws | apply Lcl.star)) g4
 have g6:=(g5.by Imp.fr4).by (Imp.trans Imp.ow (VwsA.add o5))
 have g7:=VwsA.nil (enc:=fcE) (by repeat' (first | exact hB | exact Lcl.own | exact Lcl.vws | apply Lcl.star)) g6
 have g8:=(g7.by Imp.fr5).by (Imp.trans Imp.ow (VwsA.add o3))
 -- pre,effs,conds,ov,nv,vv,B
 have g9:=(g8.by Imp.fr4).by Imp.ow
 have g10:=g9.nil (E:=85) (sz:=2) (enc:=fcE) (by repeat' (first | exact hB | exact Lcl.own | exact Lcl.vw | exact Lcl.vws | apply Lcl.star))
 have g11:=g10.by Imp.ow
 have g12:=(g11.by Imp.fr6).by Imp.ow
 have g13:=(g12.by Imp.fr7).by Imp.ow
 have g14:=((((((g13.by (Imp.un (Imp.un4 Imp.as))).by (Imp.un4 Imp.as)).by (Imp.un (Imp.un (Imp.un Imp.as)))).by (Imp.un (Imp.un Imp.as))).by (Imp.un Imp.as))).by Imp.as
 refine ⟨_,rfl,vv,o1,nv,o2,ov,o6,pv,o3,ev,o5,wv,o4,by simp [ntV,exT],?_⟩
 exact g14
end Go.Proofs.YtcoeknnghfajnaaGreat
end
section
namespace Go.Proofs.YtcoeknnghfajnaaGreat
open Go Go.W Go.Tk Go.Rx Go.Bd Go.Sy Go.Maps
theorem getM_put {κ α:Type} [DecidableEq κ]:∀(l:List (κ × α)) (x:κ) (v:α),getM (putM l x v) x=some v:=by
 intro l x v
 unfold getM putM
 split
 ·rename_i h
  rw [List.any_eq_true] at h
  induction l with
  | nil=>obtain ⟨p,hp,_⟩:=h; cases hp
  | cons p l ih =>
   by_cases e:p.1=x
   ·simp [e]
   ·simp only [List.map_cons,e,if_false,List.find?_cons,decide_false]
    refine ih ?_
    obtain ⟨q,hq,hq2⟩:=h
    rcases List.mem_cons.1 hq with rfl | hq
    ·exact absurd (of_decide_eq_true hq2) e
    ·exact ⟨q,hq,hq2⟩
 ·rename_i h
  rw [List.find?_append]
  have:l.find? (fun p=>decide (p.1=x))=none:=by
   rw [List.find?_eq_none]
   intro p hp hc
   exact h (List.any_eq_true.2 ⟨p,hp,hc⟩)
  rw [this]
  simp
theorem getM_put_ne {κ α:Type} [DecidableEq κ] {l:List (κ × α)} {x y:κ} {v:α} (h:x≠y):getM (putM l x v) y=getM l y:=by
 unfold getM putM
 split
 ·rename_i hh
  clear hh
  induction l with
  | nil=>rfl
  | cons p l ih =>
   by_cases e:p.1=x
   ·have:¬p.1=y:=fun e2=>h (by rw [←e,e2])
    simp only [List.map_cons,e,if_true,List.find?_cons,h,decide_false,this]
    exact ih
   ·by_cases e2:p.1=y
    ·have hyx:¬y=x:=fun e=>h e.symm
     simp [List.map_cons,e2,hyx]
    ·simp only [List.map_cons,e,if_false,List.find?_cons,e2,decide_false]
     exact ih
 ·rw [List.find?_append]
  cases l.find? (fun p=>decide (p.1=y)) with
  | some p=>rfl
  | none=>simp [h]
section
variable {w w1:World} {F:List Nat} {B:Asr} {s m lim:Nat} {T:Nt} {q:SpC} {ns:Ns} {ks:List (Nat × Bool)} {ss:List (Nat × Nat)}
theorem all_spec (h:At w F (SpcA s m lim T q ns ks ss B) w1):Calls Tryz.prog 27 [.pointer (some ⟨s,0,none⟩)].toArray w1 fun en w'=>∃v,en=.returned v∧v=.int .i64 (q.all:Nat)∧At w F (SpcA s m lim T q ns ks ss B) w':=by
 refine enter Tryz.func27 mixed low27 (Nat.le_of_ble_eq_true rfl) ?_
 simp only [L27]
 have os:=SpcA.obj h
 unfold spO at os
 simp [cell_blk os]
 exact h
theorem SpG.six {n:Nat} (h:n < many):cntV n=.tuple #[.int .i64 (n:Nat),.nilIface]:=by
 unfold cntV
 rw [if_pos h]
 rfl
theorem SRes.ok {W:BFn→Prop} {N N1:Nat} {P:List Nat→Bool} {v:Value} {w':World} (h:SRes s m lim T q ns ks ss B w F W P v w') (hr:Run (2 * nBits T.vars) lim N ns) (hc:CovW (2 * nBits T.vars) W N1) (hl:N+N1 < lim) :
  ∃x ns' ss',v=.tuple #[.int .i64 (x:Nat),.nilIface]∧Run (2 * nBits T.vars) lim (N+N1) ns'∧Stp (2 * nBits T.vars) lim W false ns false ns'∧Kn T ns' (putM ks x true) x P∧SpG lim T q ns' (putM ks x true) ss'∧ss'.length≤ss.length+1∧At w F (SpcA s m lim T q ns' (putM ks x true) ss' B) w':=by
 obtain ⟨x,e',ns',ss',rfl,h2,h3,h4,h5,h6,h7⟩:=h
 obtain ⟨rfl,hr2⟩:=hr.step h2 hc hl
 exact ⟨x,ns',ss',rfl,hr2,h2,⟨getM_put _ _ _,h4 rfl⟩,h5,h6,h7⟩
theorem CRes.ok {W:BFn→Prop} {N N1:Nat} {P:List Nat→Bool} {v:Value} {w':World} (h:CRes s m lim T q ns ks ss B w F W P v w') (hr:Run (2 * nBits T.vars) lim N ns) (hc:CovW (2 * nBits T.vars) W N1) (hl:N+N1 < lim) (hg:NtG T) :
  ∃ns',v=cntV (ctN T.vars P)∧Run (2 * nBits T.vars) lim (N+N1) ns'∧Stp (2 * nBits T.vars) lim W false ns false ns'∧SpG lim T q ns' ks ss∧At w F (SpcA s m lim T q ns' ks ss B) w':=by
 obtain ⟨e',ns',rfl,h2,h3,h4⟩:=h
 obtain ⟨rfl,hr2⟩:=hr.step h2 hc hl
 exact ⟨ns',by rw [if_neg (by simp),ct_num fun n hn=>(hg.vars n hn).2],hr2,h2,h3,h4⟩
end
set_option maxHeartbeats 4000000 in
theorem awake_spec {w w1:World} {F:List Nat} {B:Asr} (hB:Lcl B) (h:At w F B w1):Calls Tryz.prog 7 [].toArray w1 fun en w'=>∃v,en=.returned v∧v=.bool true∧At w F B w':=by
 refine enter Tryz.func7 mixed low7 (Nat.le_of_ble_eq_true rfl) ?_
 simp only [L7]
 simp
 refine cl_of (example_spec hB h) ?_
 rintro _ w2 ⟨vv,nv,ov,pv,ev,wv,rfl,h2⟩
 obtain ⟨T0,hT0⟩:∃T0,T0=exT vv nv ov pv ev wv:=⟨_,rfl⟩
 have hg0:NtG T0:=by rw [hT0]; exact exT_g
 have hgd0:goodB T0.raw=true:=by rw [hT0]; exact exT_good
 have hl0:TkL T0.raw:=hg0.lens (by rw [hT0]; simp [exT,exO])
 have ho0:T0.ops[0]? = some (exO pv ev wv):=by rw [hT0]; rfl
 have hv0:T0.vars=[2,3]:=by rw [hT0]; rfl
 rw [←hT0] at h2 ⊢
 have hnb:nBits [2,3]=3:=rfl
 have hL2:Lcl (Star (TskA T0) B):=TskA.lcl.star hB
 have hC:∀G:BFn,CovW 6 (fun K=>K=G) 64:=fun G=>cov_any G
 have hN0:CovW (2 * nBits T0.vars) (NewS T0) 58752:=by
  have hn6:2 * nBits T0.vars=6:=by rw [hv0]; rfl
  have:=covNew (n:=2 * nBits T0.vars) (C:=64) (by rw [hn6]; exact hC) T0 (fun n hn=>(hg0.vars n hn).2)
  refine this.mono (fun _ h=>h) ?_
  rw [hn6,hv0]
  simp
 simp
 refine cl_of (snew_spec T0 1048576 hL2 h2 TskA.rd hg0 hgd0 hl0 (by omega) (by omega) (newW (W:=NewS T0) fun G h=>h)) ?_
 rintro _ w3 hn
 rcases hn with ⟨hbig,_⟩ | ⟨_,e3,ns3,hs3,hn⟩
 ·rw [hv0,hnb] at hbig
  omega
 obtain ⟨he3,r3⟩:=(Run.start _ _).step hs3 hN0 (by omega)
 subst he3
 rcases hn with ⟨h,_⟩ | ⟨_,s,m,T,q,hA,rfl,hG3,h3⟩
 ·cases h
 have hv:T.vars=[2,3]:=by rw [hA.vars,hv0]
 have r3:Run (2 * nBits T.vars) 1048576 (0+58752) ns3:=by rw [hA.vars]; exact r3
 have hn6:2 * nBits T.vars=6:=by rw [hv]; rfl
 have hC':∀G:BFn,CovW (2 * nBits T.vars) (fun K=>K=G) 64:=by rw [hn6]; exact hC
 have hct:∀P,CovW (2 * nBits T.vars) (CtS T P) 1024:=fun P=>(covCt hC' T P).mono (fun _ h=>h) (by rw [hn6,show nBits T.vars=3 by rw [hv]; rfl]; simp)
 have k3:Kn T ns3 (putM [(0,true)] q.all true) q.all (fun _=>true):=⟨getM_put _ _ _,hG3.all⟩
 simp
 refine cl_of (all_spec h3) ?_
 rintro _ w4 ⟨rfl,h4⟩
 simp
 have hctW:∀P,LitW T.vars (CtS T P)∧(∀j,j < nBits T.vars→CtS T P (zB (nBits T.vars) j))∧CtS T P (ctF T.vars P):=fun P=>⟨litW fun G h=>.inl h,fun j hj=>.inr (.inl ⟨j,hj,rfl⟩),.inr (.inr rfl)⟩
 refine cl_of (count_spec q.all (fun _=>true) hG3 hL2 h4 k3 (hctW _).1 (hctW _).2.1 (hctW _).2.2) ?_
 rintro v5 w5 hc
 obtain ⟨ns5,rfl,r5,hs5,hG5,h5⟩:=hc.ok r3 (hct _) (by omega) hG3.g
 have e6:ctN T.vars (fun _=>true)=6:=by rw [hv]; rfl
 rw [e6,SpG.six (by decide)]
 simp
 have hk3:=hG3.ok
 have k5:Kn T ns5 (putM [(0,true)] q.all true) q.all (fun _=>true):=⟨k3.kn,k3.ok.stp hk3 hs5⟩
 obtain ⟨o,ho,op,oa,oe⟩:=hA.sk ho0
 have hpl:o.pre.length=1:=by rw [op]; rfl
 have hel:o.effs.length=2:=by rw [oe]; rfl
 have hog:=hG3.g.ops o (List.mem_of_getElem? ho)
 have hvl2:T.vars.length=2:=by rw [hv]; rfl
 have hR:CovW (2 * nBits T.vars) (RelS T o) 11584:=(covRel hC' T o (V:=2) (by omega) (by omega) (fun x hx=>by have:=(hog.cnd x hx).len; omega)).mono (fun _ h=>h) (by rw [hn6,hel]; omega)
 have hI:CovW (2 * nBits T.vars) (ImgS T o fun _=>true) 28032:=(covImg T o _ hC' hR).mono (fun _ h=>h) (by rw [hn6]; simp)
 refine cl_of (all_spec h5) ?_
 rintro _ w6 ⟨rfl,h6⟩
 simp
 refine cl_of (image_spec q.all 0 o (fun _=>true) hG5 hL2 h6 k5 ho (by have:(putM [(0,true)] q.all true).length≤1+1:=putM_len_le; omega) (by simp) (imgW (W:=ImgS T o fun _=>true) fun G h=>h)) ?_
 rintro v7 w7 hs
 obtain ⟨x,ns7,ss7,rfl,r7,hs7,k7,hG7,hl7,h7⟩:=hs.ok r5 hI (by omega)
 simp
 refine cl_of (count_spec x _ hG7 hL2 h7 k7 (hctW _).1 (hctW _).2.1 (hctW _).2.2) ?_
 rintro v8 w8 hc
 obtain ⟨ns8,rfl,r8,hs8,hG8,h8⟩:=hc.ok r7 (hct _) (by omega) hG7.g
 have hP:imgP T o (fun _=>true)=imgP T0 (exO pv ev wv) (fun _=>true):=imgP_alk hA op oa _
 have e8:ctN T.vars (imgP T o fun _=>true)=2:=by rw [hP,hv,hT0]; rfl
 rw [e8,SpG.six (by decide)]
 have k8:Kn T ns8 (putM (putM [(0,true)] q.all true) x true) x (imgP T o fun _=>true):=⟨k7.kn,k7.ok.stp hG7.ok hs8⟩
 simp [rowOf]
 have h9:=h8.lit (xs:=[1,2]) (enc:=nE) (E:=3) (sz:=1) (cs:=#[.int .i64 1,.int .i64 2]) (m:=2) (SpcA.lcl hL2) (by simp [nE]) nE_len (by simp [maxLen]) rfl
 have h10:=SpcA.into h9
 refine cl_of (has_spec x _ [1,2] _ hG8 (Lcl.own.star hL2) h10 k8 Rds.own ?_) ?_
 ·rw [hv]
  exact ⟨rfl,fun v hv=>by
   have:v=0∨v=1:=by simp at hv; omega
   rcases this with rfl | rfl <;> decide⟩
 rintro _ w11 ⟨rfl,h11⟩
 have e11:imgP T o (fun _=>true) [1,2]=true:=by rw [hP,hT0]; rfl
 rw [e11]
 simp
 have h12:=SpcA.less h11
 unfold SpcA at h12
 exact h12.drop.drop.drop.drop.drop.drop.drop.drop
end Go.Proofs.YtcoeknnghfajnaaGreat
end
section
namespace Go.Proofs.YtcoeknnghfajnaaGreat
open Go Go.W Go.Tk Go.Rx Go.Bd Go.Sy Go.Maps
def OldA (w0:World):Asr:=fun w F=>F=List.range w0.heap.size∧Kp [] w0 w
theorem OldA.lcl {w0:World}:Lcl (OldA w0):=by
 refine ⟨?_,?_⟩
 ·rintro w F ⟨rfl,k⟩ x hx
  have:=List.mem_range.1 hx
  have:=k.size
  omega
 ·rintro w F G w' ⟨rfl,k⟩ hk hG
  exact ⟨rfl,k.trans' hk fun x hx=>by
   by_cases h:x < w0.heap.size
   ·exact absurd hx (hG x (List.mem_range.2 h))
   ·exact .inr (by omega)⟩
theorem OldA.start (w:World):At w (List.range w.heap.size) (OldA w) w:=At.start ⟨rfl,Kp.refl _ _⟩
theorem OldA.rds {w0:World} {P:World→Prop} (h:∀w',Kp [] w0 w'→P w'):Rds (OldA w0) P:=fun w' F hs=>h w' hs.2
theorem At.pre0 {w w1 w2:World} {A:Asr} (k:Kp [] w w1) (h:At w1 [] A w2):At w [] A w2:=by
 obtain ⟨⟨F',h1,hs⟩,k2⟩:=h
 exact ⟨⟨F',h1,fun x hx=>by
  rcases hs x hx with h | h
  ·cases h
  ·have:=k.size
   exact .inr (by omega)⟩,k.trans k2⟩
def setI (vars:List Nat) (P:List Nat→Bool) (i:Nat):Bool:=P ((stsK vars vars.length).getD i [])
def nS (vars:List Nat):Nat:=(stsK vars vars.length).length
def stT (vars:List Nat) (P:List Nat→Bool):List Bool:=tabB (nS vars) (setI vars P)
theorem stT_at {vars:List Nat} {P:List Nat→Bool} {i:Nat} {s:List Nat} (h:(stsK vars vars.length)[i]? = some s):(stT vars P)[i]? = some (P s):=by
 have hi:=(List.getElem?_eq_some_iff.1 h).1
 unfold stT
 rw [tabB_at (N:=nS vars) hi]
 unfold setI
 simp [List.getD,h]
theorem tabB_congr {N:Nat} {f g:Nat→Bool} (h:∀i,i < N→f i=g i):tabB N f=tabB N g:=List.map_congr_left fun i hi=>h i (List.mem_range.1 hi)
theorem setI_at {vars:List Nat} {P:List Nat→Bool} {i:Nat} {s:List Nat} (h:(stsK vars vars.length)[i]? = some s):setI vars P i=P s:=by
 unfold setI
 simp [List.getD,h]
theorem stT_congr {vars:List Nat} {P Q:List Nat→Bool} (h:∀s,StN vars s→P s=Q s):stT vars P=stT vars Q:=by
 unfold stT
 refine tabB_congr fun i hi=>?_
 have h1:(stsK vars vars.length)[i]? = some ((stsK vars vars.length).getD i []):=by
  unfold nS at hi
  simp [List.getD,List.getElem?_eq_getElem hi]
 rw [setI_at h1,setI_at h1]
 exact h _ (sts_st (List.mem_of_getElem? h1))
theorem bE_cell {w:World} {v:Value} {l:List Bool} {k:Nat} {x:Bool} (h:Vw w v bE l) (hx:l[k]? = some x):w.cell? (v.adr.add k)=some (.bool x):=by
 simpa using h.at_ bE_len hx (o:=0) (u:=.bool x) rfl
end Go.Proofs.YtcoeknnghfajnaaGreat
end
section
namespace Go.Proofs.YtcoeknnghfajnaaGreat
open Go Go.W Go.Tk Go.Rx Go.Bd Go.Sy Go.Maps
section
variable {vars:List Nat} {w w' w2:World} {uv sv:Value} {ps:List (Cell1 × List Nat)} {f:Nat→Bool}
end
theorem ps_at {ps:List (Cell1 × List Nat)} {l:List (List Nat)} {i:Nat} (h:ps.map (·.2)=l) (hi:i < l.length):∃p,ps[i]? = some p∧l[i]? = some p.2:=by
 subst h
 rw [List.length_map] at hi
 exact ⟨_,List.getElem?_eq_getElem hi,by rw [List.getElem?_map,List.getElem?_eq_getElem hi]; rfl⟩
end Go.Proofs.YtcoeknnghfajnaaGreat
end
section
namespace Go.Proofs.YtcoeknnghfajnaaGreat
open Go Go.W Go.Tk Go.Rx Go.Bd Go.Sy Go.Maps
abbrev Pr:=Nat × Cell1 × (List Nat→Bool)
theorem Rds.vws {α:Type} {enc:α→List Value} {ps:List (Cell1 × List α)} {B:Asr} {p:Cell1 × List α} (hp:p ∈ ps):Rds (Star (VwsA enc ps) B) fun w'=>Vw w' p.1.1 enc p.2:=fun w' F' hs=>by
 obtain ⟨Fa,Fb,ha,_⟩:=hs
 exact ha.1 p hp
section
variable {w w1:World} {F:List Nat} {B:Asr} {s m lim:Nat} {T T':Nt} {q:SpC} {ns:Ns} {ks:List (Nat × Bool)} {ss:List (Nat × Nat)}
theorem SpcA.intoI {A:Asr}:Imp (Star A (SpcA s m lim T q ns ks ss B)) (SpcA s m lim T q ns ks ss (Star A B)):=by
 unfold SpcA
 exact Imp.bk8
end
end Go.Proofs.YtcoeknnghfajnaaGreat
end
section
namespace Go.Proofs.YtcoeknnghfajnaaGreat
open Go Go.W Go.Tk Go.Rx Go.Bd Go.Sy Go.Maps
theorem allc_congr {α:Type} {l:List α} {f g:α→Bool} (h:∀x ∈ l,f x=g x):l.all f=l.all g:=by
 induction l with
 | nil=>rfl
 | cons x l ih=>rw [List.all_cons,List.all_cons,h x (by simp),ih fun y hy=>h y (by simp [hy])]
theorem rv_x {vars:List Nat} {a b:Nat→Bool} {v:Nat} (h:∀p,bP vars v≤p→p < bP vars v+wd (vars.getD v 0)→a (2 * p)=b (2 * p)):rv vars a 0 v=rv vars b 0 v:=valK_congr _ fun k hk=>by
 have:=h (bP vars v+k) (by omega) (by omega)
 simpa using this
theorem rs_x {vars:List Nat} {a b:Nat→Bool} (h:∀p,0≤p→p < 0+nBits vars→a (2 * p)=b (2 * p)):rs vars a 0=rs vars b 0:=rs_congr fun p hp=>by
 have:=h p (Nat.zero_le _) (by omega)
 simpa using this
theorem setF_x (vars:List Nat) (P:List Nat→Bool):XIn 0 (nBits vars) (setF vars P):=fun a b h=>by
 unfold setF
 rw [rs_x h,okB_congr (rs_x h)]
theorem thr_x (vars:List Nat) (v x:Nat):XIn (bP vars v) (wd (vars.getD v 0)) fun a=>decide (rv vars a 0 v < x+1):=fun a b h=>congrArg (fun y=>decide (y < x+1)) (rv_x h)
theorem ctF_g (vars:List Nat) (P:List Nat→Bool):Gtd (nBits vars) (ctF vars P):=by
 refine ⟨fun a h p hp=>?_,fun a b h=>?_⟩
 ·unfold ctF at h
  rw [Bool.and_eq_true] at h
  exact zB_all.1 h.2 p hp
 ·have hf:∀i,i < 2 * nBits vars→a i=b i:=fun i hi=>by
   rcases Nat.mod_two_eq_zero_or_one i with h0 | h0
   ·have:=(h (i / 2) (by omega)).1
    rwa [show 2 * (i / 2)=i by omega] at this
   ·have:=(h (i / 2) (by omega)).2
    rwa [show 2 * (i / 2)+1=i by omega] at this
  have h1:=setF_fin (vars:=vars) (P:=P) hf
  unfold setF at h1
  unfold ctF
  rw [h1]
  congr 1
  unfold zB
  refine allc_congr fun j hj=>?_
  have:=List.mem_range.1 hj
  rw [hf (2 * (0+j)+1) (by omega)]
def BasS (T:Nt) (G:BFn):Prop:=NewS T G∨∃j,j < nBits T.vars∧G=zB (nBits T.vars) j
def nb (T:Nt):Nat:=2 * nBits T.vars * (2 * nBits T.vars+2 * nBits T.vars)+(((List.range T.vars.length).map fun v=>T.vars.getD v 0 * 448).sum+T.vars.length * 2 ^ nBits T.vars)+nBits T.vars * (2 * nBits T.vars)
theorem pow_wd (n:Nat):2 ^ wd n≤64:=by
 have:2 ^ wd n≤2 ^ 6:=Nat.pow_le_pow_right (by omega) (wd_le n)
 omega
end Go.Proofs.YtcoeknnghfajnaaGreat
end
section
namespace Go.Proofs.YtcoeknnghfajnaaGreat
open Go Go.W Go.Tk Go.Rx Go.Bd Go.Sy Go.Maps
abbrev Kp2:=Nat × (List Nat→Bool)
section
variable {w w1:World} {F:List Nat} {B:Asr} {s m lim N N0 c:Nat} {T:Nt} {q:SpC} {W0 W:BFn→Prop} {ps:List Kp2}
end
end Go.Proofs.YtcoeknnghfajnaaGreat
namespace Go.Proofs.YtcoeknnghfajnaaGreat
open Go Go.W Go.Tk Go.Rx Go.Bd Go.Sy Go.Maps
section
variable {w w1:World} {F:List Nat} {A B:Asr} {s m lim N N0 c:Nat} {T:Nt} {q:SpC} {W0 W:BFn→Prop} {ps:List Kp2}
end
end Go.Proofs.YtcoeknnghfajnaaGreat
end
