/-
  A part of the proof of this claim's statement (SyEJ, SyEK, SyFA, RxYL, SyGA, SyGB, SyFG, SyGC, SyFC): plain theorems; no conditions beyond those each names.
-/
import Derived.Test.YtcoeknnghfajnaaGreatPk26
import Derived.Test.YtcoeknnghfajnaaGreatPk21
import Derived.Test.YtcoeknnghfajnaaGreatPk08
import Derived.Test.YtcoeknnghfajnaaGreatPk10
import Derived.Test.YtcoeknnghfajnaaGreatPk11
import Derived.Test.YtcoeknnghfajnaaGreatPk22
import Derived.Test.YtcoeknnghfajnaaGreatPk16
import Derived.Test.YtcoeknnghfajnaaGreatPk20
import Derived.Test.YtcoeknnghfajnaaGreatPk15
set_option maxRecDepth 100000
set_option linter.unusedSimpArgs false
set_option linter.unusedVariables false
set_option linter.unusedSectionVars false
section
namespace Go.Proofs.YtcoeknnghfajnaaGreat
open Go Go.W Go.Tk Go.Rx Go.Bd Go.Sy Go.Maps
section
variable {T:Nt} {o:No} (h64:∀n ∈ T.vars,1≤n∧n≤64) (ho:NoG T.vars o)
include h64 ho
theorem relB_cub {a:Nat→Bool} (h:relB T o a=true):cubeB (litL T.vars o.pre) a=true∧rlF (nBits T.vars) (sbX T o) 0 a=true:=by
 unfold relB at h
 rw [Bool.and_eq_true,decide_eq_true_eq] at h
 refine ⟨by rw [cub_litL h64 fun f hf=>ho.pre.rng f hf]; exact h.1,rlF_iff.2 fun q _ h2=>?_⟩
 have hs:=rel_all.2 h.2
 rw [←bP_all] at h2
 obtain ⟨v,k,hv,hk,rfl⟩:=bP_split T.vars.length (Nat.le_refl _) q h2
 have hn:=bP_next hv
 rw [sbX_at h64 ho hv (by omega) (by omega)]
 have:=hs v hv
 unfold relV at this
 exact (ch_sv h64 ho hv).1 (of_decide_eq_true this) _ (by omega) (by omega)
theorem relB_det {a c:Nat→Bool} (ha:relB T o a=true) (hc:relB T o c=true) (ev:∀q,2 * q < 2 * nBits T.vars→a (2 * q)=c (2 * q)):∀i,i < 2 * nBits T.vars→a i=c i:=fun i hi=>by
 rcases Nat.mod_two_eq_zero_or_one i with h0 | h0
 ·have:=ev (i / 2) (by omega)
  rwa [show 2 * (i / 2)=i by omega] at this
 ·have e1:=rlF_iff.1 (relB_cub h64 ho ha).2 (i / 2) (Nat.zero_le _) (by omega)
  have e2:=rlF_iff.1 (relB_cub h64 ho hc).2 (i / 2) (Nat.zero_le _) (by omega)
  rw [show 2 * (i / 2)+1=i by omega] at e1 e2
  rw [e1,e2]
  exact sbX_ev h64 ho _ (by omega) a c fun p hp=>ev p (by omega)
end
theorem cov_two {T:Nt} {o:No} {y M:Nat} (h64:∀n ∈ T.vars,1≤n∧n≤64) (ho:NoG T.vars o) (hy:y < 2) {F:BFn} (hF:∀a c:Nat→Bool,(∀i,i < 2 * nBits T.vars→a i=c i)→F a=F c) (hR:∀a,F a=true→relB T o a=true) (hp:∃Λ:List (Nat→Bool),Λ.length≤M∧∀a,F a=true→∃π ∈ Λ,∀i,i < 2 * nBits T.vars→a i=π i) :
  CovR (2 * nBits T.vars) (ShZ T.vars) (fun G=>G=F∨∃H,Bd.IsC F H∧∀a,G a=true↔qS 1 (inn T y) H a) (ptZ (2 * nBits T.vars) (tA (nBits T.vars)) (tB (nBits T.vars)) M+((List.range (2 * nBits T.vars)).map (exM (nBits T.vars) y M)).sum):=by
 obtain ⟨Λ0,l1,l2⟩:=hp
 -- points of the function alone
 have l1':(Λ0.filter F).length≤M:=Nat.le_trans (List.length_filter_le _ _) l1
 have l2':∀a,F a=true→∃π ∈ Λ0.filter F,∀i,i < 2 * nBits T.vars→a i=π i:=fun a ha=>by
  obtain ⟨π,m1,m2⟩:=l2 a ha
  exact ⟨π,List.mem_filter.2 ⟨m1,by rw [←hF a π m2]; exact ha⟩,m2⟩
 refine (cov_ptz (t0:=tA (nBits T.vars)) (t1:=tB (nBits T.vars)) (S:=ShZ T.vars) hF l1' l2' (fun a c ha hc ev=>relB_det h64 ho (hR a ha) (hR c hc) ev) (fun K=>shZ_pa) fun K=>shZ_da).or ?_
 refine (cov_exl (b:=nBits T.vars) (y:=y) (S:=ShZ T.vars) hy hF l1' (fun π hπ=>(List.mem_filter.1 hπ).2) l2' (fun K=>shZ_pp (by omega)) fun K h=>shZ_s0 (nx:=1 - y) (by omega) h).mono (fun G ⟨H,⟨k,π,e⟩,hG⟩=>⟨k,π,funext fun a=>bool_eq ?_⟩) (Nat.le_refl _)
 have hin:∀j,inn T y j=Go.Sy.innN (nBits T.vars) y j:=fun j=>by rw [inn_eq]; rfl
 rw [hG,exB_iff]
 unfold qS
 rw [if_pos rfl]
 simp only [e]
 exact ⟨fun ⟨c,h1,h2⟩=>⟨c,fun j hj=>h1 j (by rw [hin]; exact hj),h2⟩,fun ⟨c,h1,h2⟩=>⟨c,fun j hj=>h1 j (by rw [←hin]; exact hj),h2⟩⟩
def imZ (b:Nat) (p:Bool):Nat:=(ptZ (2 * b) (tA b) (tB b) (if p=true then 256 else 512)+((List.range (2 * b)).map (exM b 0 (if p=true then 256 else 512))).sum)+2 ^ (b - 3)
theorem CovR.toZ {vars:List Nat} {W:BFn→Prop} {N:Nat} (h:CovR (2 * nBits vars) (ShS (nBits vars)) W N):CovR (2 * nBits vars) (ShZ vars) W N:=Go.Sy.CovR.smono h fun K hK=>.inl hK
theorem imA_rel {T:Nt} {o:No} {P:List Nat→Bool} {a:Nat→Bool} (h:imA T o P a=true):okB T.vars a=true∧relB T o a=true:=by
 unfold imA setF at h
 simp only [Bool.and_eq_true] at h
 exact ⟨h.1.1,h.2⟩
theorem sts_half {vars:List Nat} {f:Go.Tk.Fc} (hf:f.1 < vars.length) (h2:2≤vars.getD f.1 0):∃L:List (List Nat),L.length≤(stsK vars vars.length).length / 2∧∀s,s ∈ stsK vars vars.length→s.getD f.1 0=f.2→s ∈ L:=by
 obtain ⟨L,l1,l2⟩:=ex_cover (fun s=>s ∈ stsK vars vars.length∧s.getD f.1 0=f.2) ((stsK vars vars.length).length / 2) (by
  intro l hn hl
  obtain ⟨z,hz⟩:∃z,z=if f.2=0 then 1 else 0:=⟨_,rfl⟩
  have hz2:z < 2∧z≠f.2:=by
   rw [hz]
   split <;> omega
  have hlen:∀s ∈ l,f.1 < s.length:=fun s hs=>by rw [(sts_mem.1 (hl s hs).1).len]; exact hf
  have hn2:(l ++ l.map fun s=>s.set f.1 z).Nodup:=by
   rw [List.nodup_append]
   refine ⟨hn,?_,?_⟩
   ·refine List.pairwise_map.2 (hn.imp_of_mem ?_)
    intro s s' hs hs' hne e
    refine hne ?_
    have h1:=(hl s hs).2
    have h3:=(hl s' hs').2
    have e2:(s.set f.1 z).set f.1 f.2=(s'.set f.1 z).set f.1 f.2:=congrArg (fun l:List Nat=>l.set f.1 f.2) e
    rw [List.set_set,List.set_set] at e2
    have same:∀s:List Nat,f.1 < s.length→s.getD f.1 0=f.2→s.set f.1 f.2=s:=fun s hl h=>by
     apply List.ext_getElem (by simp)
     intro i i1 i2
     rw [List.getElem_set]
     split
     ·rename_i e
      subst e
      rw [List.getD_eq_getElem?_getD,List.getElem?_eq_getElem i2] at h
      exact h.symm
     ·rfl
    rwa [same s (hlen s hs) h1,same s' (hlen s' hs') h3] at e2
   ·intro s hs x hx e
    obtain ⟨s',hs',rfl⟩:=List.mem_map.1 hx
    have h1:=(hl s hs).2
    rw [e,List.getD_eq_getElem?_getD,List.getElem?_set_self (hlen s' hs')] at h1
    exact hz2.2 h1
  have hsub:∀s ∈ l ++ l.map fun s=>s.set f.1 z,s ∈ stsK vars vars.length:=fun s hs=>by
   rcases List.mem_append.1 hs with h | h
   ·exact (hl s h).1
   ·obtain ⟨s',hs',rfl⟩:=List.mem_map.1 h
    have hst:=sts_mem.1 (hl s' hs').1
    refine sts_mem.2 ⟨by rw [List.length_set]; exact hst.len,fun v hv=>?_⟩
    by_cases e:f.1=v
    ·subst e
     rw [List.getD_eq_getElem?_getD,List.getElem?_set_self (hlen s' hs')]
     show z < _
     omega
    ·rw [List.getD_eq_getElem?_getD,List.getElem?_set_ne e]
     have:=hst.rng v hv
     rwa [List.getD_eq_getElem?_getD] at this
  have:=@nodup_len (List Nat) (fun a b=>Classical.propDecidable (a=b)) _ _ hn2 hsub
  rw [List.length_append,List.length_map] at this
  omega)
 exact ⟨L,l1,fun s h1 h3=>l2 s ⟨h1,h3⟩⟩
theorem imA_pts2 {T:Nt} {o:No} (h64:∀n ∈ T.vars,1≤n∧n≤64) (ho:NoG T.vars o) (hpr:prL T.vars≤512) (P:List Nat→Bool):∃Λ:List (Nat→Bool),Λ.length≤(if preL T.vars o=true then 256 else 512)∧∀a,imA T o P a=true→∃π ∈ Λ,∀i,i < 2 * nBits T.vars→a i=π i:=by
 have hlen:(stsK T.vars T.vars.length).length≤512:=by rw [stsK_len _ (Nat.le_refl _),List.take_length]; exact hpr
 by_cases hp:preL T.vars o=true
 ·rw [if_pos hp]
  -- a fact of which some bit is given
  obtain ⟨f,hf,h2⟩:∃f ∈ o.pre,2≤T.vars.getD f.1 0:=by
   unfold preL at hp
   cases hl:litL T.vars o.pre with
   | nil=>rw [hl] at hp; cases hp
   | cons p l =>
    have hm:p ∈ litL T.vars o.pre:=by rw [hl]; simp
    obtain ⟨f,hf,h⟩:=List.mem_flatMap.1 hm
    obtain ⟨k,hk,_⟩:=List.mem_map.1 h
    have hk:=List.mem_range.1 hk
    refine ⟨f,hf,Nat.le_of_not_lt fun hlt=>?_⟩
    have:wd (T.vars.getD f.1 0)=0:=by unfold wd; rw [if_pos (by omega)]
    omega
  obtain ⟨L,l1,l2⟩:=sts_half (f:=f) (ho.pre.rng f hf).1 h2
  obtain ⟨Λ,a1,a2⟩:=lst_img (fun a=>rs T.vars a 0) (fun i=>i < 2 * nBits T.vars) L (fun a=>imA T o P a=true) (fun a c ha hc e i hi=>relB_det h64 ho (imA_rel ha).2 (imA_rel hc).2 (fun q hq=>rs_bits (nx:=0) e q (by omega)) i hi) fun a ha=>by
   obtain ⟨h3,h4⟩:=imA_rel ha
   refine l2 _ (sts_mem.2 (okB_iff.1 h3)) ?_
   unfold relB hdB at h4
   rw [Bool.and_eq_true,List.all_eq_true] at h4
   exact of_decide_eq_true (h4.1 f hf)
  exact ⟨Λ,by omega,a2⟩
 ·rw [if_neg hp]
  obtain ⟨Λ,a1,a2⟩:=imA_pts T o P
  exact ⟨Λ,by omega,a2⟩
theorem cov_imz {T:Nt} {o:No} (h64:∀n ∈ T.vars,1≤n∧n≤64) (ho:NoG T.vars o) (hpr:prL T.vars≤512) (P:List Nat→Bool):CovR (2 * nBits T.vars) (ShZ T.vars) (ImgT T o P) (imZ (nBits T.vars) (preL T.vars o)):=by
 refine ((cov_two h64 ho (y:=0) (by omega) (fun a b h=>imA_fin h) (fun a h=>(imA_rel h).2) (imA_pts2 h64 ho hpr P)).or (W2:=fun G=>∃X,(∀a,X a=true↔qS 1 (inn T 0) (imA T o P) a)∧∃H,Bd.IsC X H∧G=fun b=>H (sgA (2 * nBits T.vars) 1 b)) (N2:=2 ^ (nBits T.vars - 3)) ?_).mono (fun G hG=>?_) (Nat.le_refl _)
 ·by_cases hX:∃X:BFn,∀a,X a=true↔qS 1 (inn T 0) (imA T o P) a
  ·obtain ⟨X,hX⟩:=hX
   refine (CovR.toZ (cov_ren (F:=X) (nx:=1) (by omega) (ex_xn (fun a b h=>imA_fin h) hX))).mono (fun G hG=>?_) (Nat.le_refl _)
   obtain ⟨Y,hY,H,hH,e⟩:=hG
   have:Y=X:=ex_uniq _ _ hY hX
   subst this
   exact ⟨H,hH,e⟩
  ·exact (CovR.none _ _).mono (fun G ⟨X,h,_⟩=>hX ⟨X,h⟩) (Nat.zero_le _)
 ·rcases hG with h | h | h
  ·exact .inl (.inl h)
  ·exact .inl (.inr h)
  ·exact .inr h
end Go.Proofs.YtcoeknnghfajnaaGreat
end
section
namespace Go.Proofs.YtcoeknnghfajnaaGreat
open Go Go.W Go.Tk Go.Rx Go.Bd Go.Sy Go.Maps
def ctC (b:Nat):Nat:=((List.range (2 * b)).map fun t=>min (2 ^ ((t+1) / 2)) (2 ^ 2 ^ (b - (t+1) / 2))).sum
theorem cov_gt {b:Nat} {S:BFn→Prop} {G:BFn} (hG:Gtd b G):CovR (2 * b) S (fun K=>K=G) (ctC b):=by
 refine cov_at (fun t=>min (2 ^ ((t+1) / 2)) (2 ^ 2 ^ (b - (t+1) / 2))) fun t ht=>?_
 -- the bits of the successor that are given are false
 have hz:∀a,Dep (fun c=>G (pfx a t c)) t→∀p,2 * p+1 < t→a (2 * p+1)=false:=fun a hd p hp=>by
  obtain ⟨x,hx⟩:=dep_true hd
  have:=hG.1 _ hx p (by omega)
  rwa [pfx_in hp] at this
 have hc:∀a a' c,(∀p,2 * p+1 < t→a (2 * p+1)=false)→(∀p,2 * p+1 < t→a' (2 * p+1)=false)→(∀q,2 * q < t→a (2 * q)=a' (2 * q))→G (pfx a t c)=G (pfx a' t c):=fun a a' c h1 h2 h3=>hG.2 _ _ fun p _=>⟨pfx_ag (h3 p) fun _=>rfl,pfx_ag (fun h=>by rw [h1 p h,h2 p h]) fun _=>rfl⟩
 by_cases hm:2 ^ ((t+1) / 2)≤2 ^ 2 ^ (b - (t+1) / 2)
 ·rw [Nat.min_eq_left hm]
  obtain ⟨Λ,l1,l2⟩:=lst_keys ((List.range ((t+1) / 2)).map fun q=>fun a=>a (2 * q)) fun _=>True
  rw [List.length_map,List.length_range] at l1
  refine ⟨Λ.map fun π=>fun c=>G (pfx (fun i=>if i % 2=0 then π i else false) t c),by rw [List.length_map]; exact l1,fun K hK a hd=>.inl ?_⟩
  subst hK
  obtain ⟨π,m1,_,m2⟩:=l2 a trivial
  refine List.mem_map.2 ⟨π,m1,funext fun c=>hc _ _ c (fun p _=>?_) (hz a hd) fun q hq=>?_⟩
  ·show (if (2 * p+1) % 2=0 then _ else false)=false
   rw [if_neg (by omega)]
  ·show (if 2 * q % 2=0 then π (2 * q) else false)=a (2 * q)
   rw [if_pos (by omega)]
   exact (m2 (fun a=>a (2 * q)) (List.mem_map.2 ⟨q,List.mem_range.2 (by omega),rfl⟩)).symm
 ·rw [Nat.min_eq_right (by omega)]
  obtain ⟨L,l1,l2⟩:=lst_fun ((List.range (b - (t+1) / 2)).map fun i=>2 * ((t+1) / 2+i))
  rw [List.length_map,List.length_range] at l1
  let Z:(Nat→Bool)→Bool:=fun c=>(List.range b).all fun p=>decide (2 * p+1 < t) || !c (2 * p+1)
  have hZ:∀c,Z c=true↔∀p,t≤2 * p+1→p < b→c (2 * p+1)=false:=fun c=>by
   show ((List.range b).all fun p=>decide (2 * p+1 < t) || !c (2 * p+1))=true↔_
   rw [List.all_eq_true]
   constructor
   ·intro h p h1 h2
    have:=h p (List.mem_range.2 h2)
    rw [decide_eq_false (by omega)] at this
    simpa using this
   ·intro h p hp
    have hp:=List.mem_range.1 hp
    by_cases h1:2 * p+1 < t
    ·rw [decide_eq_true h1]; rfl
    ·rw [h p (by omega) hp]; simp
  refine ⟨L.map fun K0=>fun c=>K0 c && Z c,by rw [List.length_map]; exact l1,fun K hK a hd=>.inl ?_⟩
  subst hK
  have ha:=hz a hd
  refine List.mem_map.2 ⟨fun c=>K (pfx a t fun i=>if i % 2=0 then c i else false),l2 _ fun x y hxy=>hG.2 _ _ fun p hp=>⟨pfx_ag (fun _=>rfl) fun h=>?_,pfx_ag (fun _=>rfl) fun h=>?_⟩,funext fun c=>?_⟩
  ·show (if 2 * p % 2=0 then x (2 * p) else false)=if 2 * p % 2=0 then y (2 * p) else false
   rw [if_pos (by omega),if_pos (by omega)]
   have:=hxy (2 * ((t+1) / 2+(p - (t+1) / 2))) (List.mem_map.2 ⟨p - (t+1) / 2,List.mem_range.2 (by omega),rfl⟩)
   rwa [show (t+1) / 2+(p - (t+1) / 2)=p by omega] at this
  ·show (if (2 * p+1) % 2=0 then _ else false)=if (2 * p+1) % 2=0 then _ else false
   rw [if_neg (by omega),if_neg (by omega)]
  ·show (K (pfx a t fun i=>if i % 2=0 then c i else false) && Z c)=K (pfx a t c)
   have e:Z c=true→K (pfx a t fun i=>if i % 2=0 then c i else false)=K (pfx a t c):=fun h=>hG.2 _ _ fun p hp=>⟨pfx_ag (fun _=>rfl) fun _=>by show (if 2 * p % 2=0 then c (2 * p) else false)=c (2 * p); rw [if_pos (by omega)],pfx_ag (fun _=>rfl) fun h2=>by
    show (if (2 * p+1) % 2=0 then _ else false)=c (2 * p+1)
    rw [if_neg (by omega)]
    exact ((hZ c).1 h p h2 hp).symm⟩
   cases hzc:Z c with
   | true=>rw [Bool.and_true]; exact e hzc
   | false =>
    rw [Bool.and_false]
    cases hk:K (pfx a t c) with
    | false=>rfl
    | true =>
     rw [←hzc]
     exact (hZ c).2 fun p h1 h2=>by
      have:=hG.1 _ hk p h2
      rwa [pfx_out h1] at this
def Val1 (vars:List Nat) (G:BFn):Prop:=∃v,v < vars.length∧∃x,x < vars.getD v 0∧VlS vars v x 1 G
def W0Z (T:Nt) (G:BFn):Prop:=BasS T G∨(ShZ T.vars G∨(SaZ T.vars G∨Val1 T.vars G))
def n0Z (b:Nat):Nat:=(4 * b+196 * (552 - 45 * b)+3 * (b * b))+(shN b 12+((72 * b+216)+108 * (552 - 45 * b)))
theorem zV_mono {b t0 t1 V V':Nat} (h:V≤V'):zV b t0 t1 V≤zV b t0 t1 V':=by
 unfold zV
 refine sm_le fun t _=>Nat.add_le_add ?_ ?_
 ·split
  ·exact Nat.add_le_add (Nat.le_refl _) (Nat.mul_le_mul_right _ h)
  ·exact Nat.le_refl _
 ·split
  ·exact Nat.add_le_add (Nat.le_refl _) (Nat.mul_le_mul_right _ h)
  ·exact Nat.le_refl _
theorem shN_mono {b V V':Nat} (h:V≤V'):shN b V≤shN b V':=by
 have:=zV_mono (b:=b) (t0:=tA b) (t1:=tB b) h
 unfold shN
 omega
theorem sum_gd (vars:List Nat):sm vars.length (fun v=>vars.getD v 0)=vars.sum:=by
 unfold sm
 congr 1
 apply List.ext_getElem (by simp)
 intro i h1 h2
 simp
 rw [List.getElem?_eq_getElem (by simpa using h1)]
 rfl
theorem sum_wd2 (vars:List Nat):sm vars.length (fun v=>wd (vars.getD v 0))=nBits vars:=by
 unfold sm nBits
 congr 1
 apply List.ext_getElem (by simp)
 intro i h1 h2
 simp
 rw [List.getElem?_eq_getElem (by simpa using h1)]
 rfl
theorem cov_w0z {T:Nt} (hT:SmC T):CovW (2 * nBits T.vars) (W0Z T) (n0Z (nBits T.vars)):=by
 obtain ⟨b1,b2⟩:=hT.bs
 have hV:=hT.vl
 have c1:CovW (2 * nBits T.vars) (SaZ T.vars) (72 * nBits T.vars+216):=by
  refine (CovW.sum (n:=2 * nBits T.vars) (fun v G=>SaS T.vars v G∨G=saB T.vars v 0) (fun v=>wd (T.vars.getD v 0) * 72+18) T.vars.length fun v hv=>?_).mono (fun _ h=>h) ?_
  ·have hw:=wd_le (T.vars.getD v 0)
   refine CovW.or (CovW.eachW (fun j G=>G=(fun a=>a (2 * (bP T.vars v+j)) && a (2 * (bP T.vars v+j)+1))∨G=(fun a=>!a (2 * (bP T.vars v+j)) && !a (2 * (bP T.vars v+j)+1)) ∨
     G=(fun a=>(a (2 * (bP T.vars v+j)) && a (2 * (bP T.vars v+j)+1)) || (!a (2 * (bP T.vars v+j)) && !a (2 * (bP T.vars v+j)+1)))∨G=saB T.vars v j) (wd (T.vars.getD v 0)) (c:=72) fun j hj=>?_) ((pl_sa T.vars v 0).cov.mono (fun _ h=>h) (by omega))
   have one:∀f:Bool→Bool→Bool,CovW (2 * nBits T.vars) (fun K=>K=fun a=>f (a (2 * (bP T.vars v+j))) (a (2 * (bP T.vars v+j)+1))) 18:=fun f=>(PairL.one (s:=bP T.vars v) (w:=wd (T.vars.getD v 0)) hj f).cov.mono (fun _ h=>h) (by omega)
   exact (one fun x y=>x && y).or ((one fun x y=>!x && !y).or ((one fun x y=>(x && y) || (!x && !y)).or ((pl_sa T.vars v j).cov.mono (N':=18) (fun _ h=>h) (by omega))))
  ·have e:((List.range T.vars.length).map fun v=>wd (T.vars.getD v 0) * 72+18).sum=sm T.vars.length fun v=>72 * wd (T.vars.getD v 0)+18:=sm_congr fun v _=>by omega
   rw [e,sm_add,sm_mul,sm_const,sum_wd2]
   omega
 have c2:CovW (2 * nBits T.vars) (Val1 T.vars) (108 * (552 - 45 * nBits T.vars)):=by
  refine (CovW.sum (n:=2 * nBits T.vars) (fun v G=>∃x,x < T.vars.getD v 0∧VlS T.vars v x 1 G) (fun v=>T.vars.getD v 0 * 108) T.vars.length fun v hv=>CovW.eachW _ _ fun x hx=>?_).mono (fun _ h=>h) ?_
  ·refine (CovW.eachW (fun j G=>G=vlB T.vars v x 1 j) _ fun j _=>(pl_vl T.vars v x (by omega) j).cov).mono (fun _ h=>h) ?_
   have:=wd_le (T.vars.getD v 0)
   have h2:wd (T.vars.getD v 0) * (3 * wd (T.vars.getD v 0))≤6 * (3 * 6):=Nat.mul_le_mul this (by omega)
   omega
  ·have e:((List.range T.vars.length).map fun v=>T.vars.getD v 0 * 108).sum=sm T.vars.length fun v=>108 * T.vars.getD v 0:=sm_congr fun v _=>by omega
   rw [e,sm_mul,sum_gd]
   have:T.vars.sum≤552 - 45 * nBits T.vars:=by omega
   exact Nat.mul_le_mul_left _ this
 refine ((cov_basL hT.vars).or ((cov_shZ T.vars).or (c1.or c2))).mono (fun _ h=>h) ?_
 have h4:T.vars.length * (T.vars.sum * 2)≤12 * (T.vars.sum * 2):=Nat.mul_le_mul_right _ hT.vl
 have h5:nBits T.vars * (3 * nBits T.vars)=3 * (nBits T.vars * nBits T.vars):=Nat.mul_left_comm _ _ _
 have h6:=shN_mono (b:=nBits T.vars) hV
 unfold n0Z nbL
 rw [h5]
 omega
theorem w0z_sh {T:Nt}:∀G,ShZ T.vars G→W0Z T G:=fun G h=>.inr (.inl h)
theorem w0z_rel {T:Nt} {o:No} (h64:∀n ∈ T.vars,1≤n∧n≤64) (ho:NoG T.vars o) (he:o.effs.length≤8):CovR (2 * nBits T.vars) (ShZ T.vars) (fun G=>RelS2 T o G∧¬W0Z T G) (relZ (nBits T.vars) (preL T.vars o)) :=
 cov_rel5 h64 ho he (fun G h=>.inr (.inr (.inl h))) fun G ⟨v,hv,x,hx,nx,hn,h⟩=>by
  rcases (show nx=0∨nx=1 by omega) with rfl | rfl
  ·exact .inl (.inl (.inr (.inl ⟨v,hv,x,hx,.inl h⟩)))
  ·exact .inr (.inr (.inr ⟨v,hv,x,hx,h⟩))
section
variable {T:Nt} {W:BFn→Prop}
end
end Go.Proofs.YtcoeknnghfajnaaGreat
end
section
namespace Go.Proofs.YtcoeknnghfajnaaGreat
open Go Go.W Go.Tk Go.Rx Go.Bd Go.Sy Go.Maps
section
variable {w w1:World} {F:List Nat} {B:Asr} {s m lim:Nat} {T T':Nt} {q:SpC} {ns:Ns} {ks:List (Nat × Bool)} {ss:List (Nat × Nat)} {lv:Value} {ps:List Pr} {pins:List (Nat × Obj)}
theorem relZin {T:Nt} {o:No} {W:BFn→Prop} {G:BFn} (h:RelS T o G∨W G):W0Z T G∨(RelS2 T o G∨W G):=by
 rcases h with (h | h) | h
 ·exact .inl (.inl (.inl (.inl h)))
 ·exact .inr (.inl h)
 ·exact .inr (.inr h)
end
end Go.Proofs.YtcoeknnghfajnaaGreat
end
section
namespace Go.Rx
open Go Go.W Go.Tk
theorem getD_set_ne {d:List Nat} {i j x:Nat} (h:i≠j):(d.set i x).getD j 0=d.getD j 0:=by simp only [List.getD,List.getElem?_set_ne h]
end Go.Rx
namespace Go.Proofs.YtcoeknnghfajnaaGreat
open Go Go.W Go.Tk Go.Rx Go.Maps
def edO (e:Ed):Obj:=.cells #[.int .i64 (e.1:Nat),.int .i64 (e.2.1:Nat),.int .i64 (e.2.2:Nat)] 99 (0,0)
theorem st_ed {wa w:World} {F:List Nat} {X:Asr} {KW:Kont World} {e:Ed} {b:Nat} (hX:Lcl X) (h:At w F X wa) (hb:b=wa.heap.size) (H:∀w2,At w F (Star (ObjA b (edO e)) X) w2→KW.run w2) :
  @stJ (wa.alloc (.cells #[.int .i64 0,.int .i64 0,.int .i64 0] 99 (0,0))) ⟨b,0,none⟩ [.int .i64 (e.1:Nat),.int .i64 (e.2.1:Nat),.int .i64 (e.2.2:Nat)] KW:=by
 have h1:At w F (Star (ObjA b (.cells #[.int .i64 0,.int .i64 0,.int .i64 0] 99 (0,0))) X) (wa.alloc (.cells #[.int .i64 0,.int .i64 0,.int .i64 0] 99 (0,0))):=by rw [hb]; exact h.alloc _ hX
 exact h1.st hX (by simp) (by simp) fun w2 h2=>H w2 (by simpa [edO] using h2)
def goalB (T:Nt) (i:Nat):Bool:=match (stsK T.vars T.vars.length)[i]? with | some s=>hdB s T.goal | none=>false
def d0 (T:Nt) (i:Nat):Nat:=if goalB T i=true then 0 else Inf
theorem ed_rng {T:Nt} (hT:SmT T) {e:Ed} (he:e ∈ edA T):e.1 < (stsK T.vars T.vars.length).length∧e.2.1 < T.ops.length∧e.2.2 < (stsK T.vars T.vars.length).length:=by
 obtain ⟨s,o,h1,h2,h3,h4⟩:=edK_mem he
 refine ⟨(List.getElem?_eq_some_iff.1 h1).1,(List.getElem?_eq_some_iff.1 h2).1,?_⟩
 have hst:=apS_st (sts_st (List.mem_of_getElem? h1)) (hT.g.ops o (List.mem_of_getElem? h2))
 rw [h4]
 exact (List.getElem?_eq_some_iff.1 (rk_all hst)).1
end Go.Proofs.YtcoeknnghfajnaaGreat
end
section
namespace Go.Proofs.YtcoeknnghfajnaaGreat
open Go Go.W Go.Tk Go.Rx Go.Bd Go.Sy Go.Maps
theorem many2_spec {w:World} (vv:Value) (vars:List Nat) (hv:Vw w vv nE vars) (hn:∀n ∈ vars,1≤n∧n≤64) (hl:vars.length≤64) (hp:∀k,prL (vars.take k)≤512) :
  Calls Tryz.prog 25 [vv,.int .i64 65536].toArray w fun e w'=>∃x,e=.returned x∧x=.int .i64 (prL vars:Nat)∧Kp [] w w':=by
 refine enter Tryz.func25 mixed low25 (Nat.le_of_ble_eq_true rfl) ?_
 simp only [L25]
 simp [hv.len]
 refine range_loop (n:=vars.length) (by omega) (fun k ρ w'=>ρ 1=.int .i64 65536∧ρ 8=vv∧ρ 5=.int .i64 (prL (vars.take k):Nat)∧Kp [] w w') (by simp) (by simp)
  ⟨by simp,by simp,by simp [prL],Kp.refl _ _⟩ (by decide) (fun _ _ _ _ h=>by simpa using h) (fun _ _ _ _ h=>by simpa using h) ?_ ?_
 rotate_left
 ·rintro ρ w4 ⟨g1,g8,g5,k4⟩
  rw [List.take_of_length_le (Nat.le_refl _)] at g5
  simp [g5]
  exact k4
 rintro k ρ w4 hk hc hlm ⟨g1,g8,g5,k4⟩
 have hv4:=hv.kp0 k4
 obtain ⟨x,hx⟩:∃x,vars[k]? = some x:=⟨_,List.getElem?_eq_getElem hk⟩
 have hx64:=hn x (List.mem_of_getElem? hx)
 have e1:prL (vars.take (k+1))=prL (vars.take k) * x:=by rw [List.take_add_one,hx]; exact prL_snoc _ _
 have hp1:=hp (k+1)
 rw [e1] at hp1 ⊢
 obtain ⟨n,hn'⟩:∃n,n=prL (vars.take k):=⟨_,rfl⟩
 have hpk:=hp k
 rw [←hn'] at g5 hp1 hpk ⊢
 have hy2:min (x:Int) 65537=(x:Nat):=by omega
 have em:((n:Int) * (x:Nat))=((n * x:Nat):Int):=by simp
 obtain ⟨p,hpe⟩:∃p,p=n * x:=⟨_,rfl⟩
 rw [←hpe] at em hp1 ⊢
 have w1:IntKind.i64.wrap (65537:Int)=65537:=wrap_i64 (by omega) (by omega)
 have t':¬(65536:Int) < (p:Nat):=by omega
 simp (disch:=omega) [g1,g8,g5,hc,hlm,hv4.idx,nE_cell hv4 hx,hy2,em,wrap_i64,t',w1]
 exact k4
def fN (d:List Bool):Nat:=(d.filter fun b=>!b).length
theorem fN_set:∀{d:List Bool} {i:Nat},d[i]? = some false→fN (d.set i true) < fN d
 | [],i,h=>by simp at h
 | b :: d,0,h=>by
  simp at h
  subst h
  simp [fN]
 | b :: d,i+1,h=>by
  have ih:=fN_set (d:=d) (i:=i) (by simpa using h)
  unfold fN at ih ⊢
  cases b
  ·show (List.filter (fun b=>!b) (d.set i true)).length+1 < (List.filter (fun b=>!b) d).length+1
   omega
  ·exact ih
structure RcOk (es:List Ed) (r:Nat) (d:List Bool):Prop where
 z:d.getD r false=true
 low:∀C:Nat→Prop,C r→(∀e ∈ es,C e.1→C e.2.2)→∀i,d.getD i false=true→C i
def RcClo (es:List Ed) (d:List Bool):Prop:=∀e ∈ es,d.getD e.1 false=true→d.getD e.2.2 false=true
theorem getB_set {d:List Bool} {i j:Nat} (hi:i < d.length):(d.set i true).getD j false=true↔j=i∨d.getD j false=true:=by
 simp only [List.getD,List.getElem?_set]
 by_cases h:i=j
 ·subst h
  simp [hi]
 ·rw [if_neg h]
  constructor
  ·exact .inr
  ·rintro (rfl | h2)
   ·exact absurd rfl h
   ·exact h2
theorem RcOk.step {es:List Ed} {r:Nat} {d:List Bool} {e:Ed} (h:RcOk es r d) (he:e ∈ es) (hf:d.getD e.1 false=true) (ht:e.2.2 < d.length):RcOk es r (d.set e.2.2 true) :=
 ⟨(getB_set ht).2 (.inr h.z),fun C c0 c1 i hi=>by
  rcases (getB_set ht).1 hi with rfl | hi
  ·exact c1 e he (h.low C c0 c1 _ hf)
  ·exact h.low C c0 c1 i hi⟩
def RdI (T:Nt) (dv ev:Value) (r N:Nat) (w:World) (n:Nat) (ρ:Env) (w':World):Prop :=
 ρ 5=dv∧ρ 6=ev∧∃d ch,ρ 7=.bool ch∧d.length=N∧RcOk (edA T) r d∧(ch=false→RcClo (edA T) d)∧n=(if ch=true then fN d+1 else 0)∧At w [] (Star (OwnA dv 4 1 bE d) (Star (OwnA ev 99 3 edE (edA T)) Emp)) w'
structure Rcf (T:Nt) (r N s0 k:Nat) (ch:Bool) (d:List Bool):Prop where
 len:d.length=N
 ok:RcOk (edA T) r d
 clo:ch=false→RcClo ((edA T).take k) d
 lt:ch=true→fN d < s0
 le:fN d≤s0
def RdE (T:Nt) (dv ev:Value) (r N s0:Nat) (w:World) (k:Nat) (ρ:Env) (w':World):Prop :=
 ρ 5=dv∧ρ 6=ev∧ρ 23=ev∧∃d ch,ρ 7=.bool ch∧Rcf T r N s0 k ch d∧At w [] (Star (OwnA dv 4 1 bE d) (Star (OwnA ev 99 3 edE (edA T)) Emp)) w'
set_option maxHeartbeats 1000000 in
theorem reached_spec {w:World} (T:Nt) (sv:Value) (st:List Nat) (hr:NtR w T) (hT:SmT T) (hs:Vw w sv nE st) (hst:StN T.vars st) :
  Calls Tryz.prog 14 [ntV T,sv].toArray w fun e w'=>∃u,e=.returned u∧∃d,d.length=nS T.vars∧RcOk (edA T) (rkK T.vars st T.vars.length) d∧RcClo (edA T) d∧At w [] (Star (OwnA u 4 1 bE d) Emp) w':=by
 refine enter Tryz.func14 mixed low14 (Nat.le_of_ble_eq_true rfl) ?_
 simp only [L14]
 have hg:=hT.g
 have hol:=hT.ol
 have hvl:=hT.vl
 obtain ⟨b,hb⟩:∃b,b=w.heap.size:=⟨_,rfl⟩
 obtain ⟨w1,hw1⟩:∃w1,w1=w.alloc (ntO T):=⟨_,rfl⟩
 have k1:Kp [] w w1:=by rw [hw1]; exact (Kp.refl [] w).alloc _
 have hw1':w.alloc (.cells #[T.vv.1,T.nv.1,T.gv.1,T.ov.1] 26 (0,0))=w1:=by rw [hw1]; rfl
 have hob:w1.heap[b]? = some (.cells #[T.vv.1,T.nv.1,T.gv.1,T.ov.1] 26 (0,0)):=by rw [hb,hw1]; exact alloc_new
 have hr1:=hr.kp k1
 obtain ⟨N,hN⟩:∃N,N=nS T.vars:=⟨_,rfl⟩
 have hN512:N≤512:=by rw [hN]; exact sts512 hT
 have hNp:prL T.vars=N:=by
  rw [hN]
  unfold nS
  rw [stsK_len _ (Nat.le_refl _),List.take_length]
 simp [ntV,←hb,hw1',cell_blk hob]
 refine cl_of (many2_spec T.vv.1 T.vars hr1.vars (fun n hn=>hg.vars n hn) (by omega) hT.pr) ?_
 rintro _ w2 ⟨rfl,k2⟩
 rw [hNp]
 simp
 refine gd_mk (by omega) ?_
 have h3:=((At.start rfl:At w1 [] Emp w1).kp0 .emp k2).made (E:=4) (enc:=bE) (x:=false) (z:=[.bool false]) (n:=N) .emp rfl bE_len (by unfold maxLen; omega)
 obtain ⟨dv,hdv⟩:∃dv,dv=Value.slice (some ⟨w2.heap.size,0,none⟩) N N:=⟨_,rfl⟩
 rw [←hdv] at h3
 have obn:∀{F:List Nat} {A:Asr} {w':World},At w1 F A w'→∀h:F=[],w'.heap[b]? = some (.cells #[T.vv.1,T.nv.1,T.gv.1,T.ov.1] 26 (0,0)):=fun h e=>by subst e; exact h.kp.blk hob (by simp)
 have hrk:rkK T.vars st T.vars.length < N:=by rw [hN]; exact (List.getElem?_eq_some_iff.1 (rk_all hst)).1
 obtain ⟨r,hre⟩:∃r,r=rkK T.vars st T.vars.length:=⟨_,rfl⟩
 rw [←hre] at hrk
 have ob3:=obn h3 rfl
 have hsl:=hst.len
 simp [←hdv,cell_blk ob3]
 refine cl_of (rank_spec T.vv.1 sv T.vars st (hr1.kp h3.kp).vars (hs.kp0 (k1.trans h3.kp)) hsl (by omega) (fun k hk=>by have:=rk_sm hT hst k (by omega); omega)) ?_
 rintro _ w4 ⟨rfl,k4⟩
 rw [hsl,←hre]
 have h4:=h3.kp0 (Lcl.own.star .emp) k4
 have hrl:(List.replicate N false).length=N:=by simp
 have hri:(r:Int) < N:=by omega
 simp (disch:=omega) [h4.own.idx,hrl]
 refine h4.store1 .emp bE_len bE_one (k:=r) (by omega) (x:=true) rfl fun w5 h5=>?_
 have ob5:=obn h5 rfl
 have rt:cellsAt w5 ⟨b,0,none⟩ 0 4=some [T.vv.1,T.nv.1,T.gv.1,T.ov.1]:=by simp [cellsAt,Addr.add,cell_blk ob5]
 simp [rt]
 refine cl_of (edges_spec T (hr1.kp h5.kp) hT) ?_
 rintro ev w6 h6
 have h7:=(At.join (Lcl.own.star .emp) h5 h6).by Imp.sw
 have hdl0:((List.replicate N false).set r true).length=N:=by simp
 have hok0:RcOk (edA T) r ((List.replicate N false).set r true):=by
  refine ⟨(getB_set (by simpa using hrk)).2 (.inl rfl),fun C c0 c1 i hi=>?_⟩
  rcases (getB_set (by simpa using hrk)).1 hi with rfl | hi
  ·exact c0
  ·have:(List.replicate N false).getD i false=false:=by
    by_cases h:i < N <;> simp [List.getD,h]
   rw [this] at hi
   cases hi
 obtain ⟨d1,hd1⟩:∃d1,d1=(List.replicate N false).set r true:=⟨_,rfl⟩
 rw [←hd1] at h7 hdl0 hok0
 simp
 refine loop_inv (RdI T dv ev r N w1) (fN d1+1) ⟨by simp,by simp,d1,true,by simp,hdl0,hok0,by simp,rfl,h7⟩ ?_
 clear rt ob5 ob3 h3 h4 h5 h6 h7 hok0 hdl0
 rintro n ρ w6 ⟨g5,g6,d,ch,g7,hdl,hok,hcl,rfl,h6⟩
 cases ch with
 | false =>
  simp [g7,g5]
  exact ⟨d,by rw [hdl,hN],hok,hcl rfl,At.pre0 k1 (h6.by (Imp.un Imp.dr))⟩
 | true =>
  have hel:=edK_len T (stsK T.vars T.vars.length).length
  have hnS:(stsK T.vars T.vars.length).length=N:=by rw [hN]; rfl
  have hel2:(stsK T.vars T.vars.length).length * T.ops.length≤512 * 20:=Nat.mul_le_mul (by omega) hol
  have helA:(edA T).length≤10240:=by show (edK T (stsK T.vars T.vars.length).length).length≤_; omega
  obtain ⟨s0,hs0⟩:∃s0,s0=fN d:=⟨_,rfl⟩
  obtain ⟨M,hM⟩:∃M,M=(edA T).length:=⟨_,rfl⟩
  simp [g7,g6,h6.drop.own.vw.len,←hM]
  refine range_loop (n:=M) (by omega) (RdE T dv ev r N s0 w1) (by simp) (by simp)
   ⟨by simp [g5],by simp [g6],by simp,d,false,by simp,⟨hdl,hok,fun _ e he=>by simp at he,by simp,by omega⟩,by simpa using h6⟩ (by decide) (fun _ _ _ _ h=>by unfold RdE at h ⊢; simpa using h) (fun _ _ _ _ h=>by unfold RdE at h ⊢; simpa using h) ?_ ?_
  rotate_left
  ·clear g5 g6 g7 h6
   rintro ρ w7 ⟨g5,g6,g23,d2,ch2,g7,hF,h7⟩
   simp
   have hcl2:=hF.clo
   rw [hM,List.take_length] at hcl2
   refine ⟨_,?_,g5,g6,d2,ch2,g7,hF.len,hF.ok,hcl2,rfl,h7⟩
   cases ch2 with
   | false=>simp
   | true=>have:=hF.lt rfl; simp; omega
  clear g5 g6 g7 h6 hcl hok
  rintro k ρ w7 hk hck hlk ⟨g5,g6,g23,d2,ch2,g7,hF,h7⟩
  obtain ⟨e,he⟩:∃e,(edA T)[k]? = some e:=⟨_,List.getElem?_eq_getElem (by omega)⟩
  have hem:=List.mem_of_getElem? he
  obtain ⟨r1,r2,r3⟩:=ed_rng hT hem
  obtain ⟨ef,eq,et⟩:=e
  simp only at r1 r2 r3
  obtain ⟨fb,hfb⟩:∃fb,fb=w7.heap.size:=⟨_,rfl⟩
  have hLX:∀l:List Bool,Lcl (Star (OwnA dv 4 1 bE l) (Star (OwnA ev 99 3 edE (edA T)) Emp)):=fun _=>Lcl.own.star (Lcl.own.star .emp)
  refine seq_cut (fun ρ w'=>ρ 5=dv∧ρ 6=ev∧ρ 23=ev∧ρ 24=.int .i64 (M:Nat)∧ρ 25=.int .i64 (k:Nat)∧ρ 7=.bool ch2∧ρ 9=.pointer (some ⟨fb,0,none⟩)∧At w1 [] (Star (ObjA fb (edO (ef,eq,et))) (Star (OwnA dv 4 1 bE d2) (Star (OwnA ev 99 3 edE (edA T)) Emp))) w') ?_ ?_
  ·have hev:=h7.drop.own.vw
   have ec:=hev.cells edE_len he
   simp only [edE] at ec
   have hki:(k:Int) < (edA T).length:=by omega
   simp (disch:=omega) [g6,g23,hck,hlk,hev.idx,ec,←hfb]
   refine st_ed (e:=(ef,eq,et)) (hLX _) h7 hfb fun w8 h8=>?_
   simp [g5,g6,g23,g7,hck,hlk,←hfb]
   exact h8
  clear g5 g6 g23 g7 hck hlk h7 hfb
  rintro ρ w7 ⟨g5,g6,g23,g24,g25,g7,g9,h7⟩
  have oe7:=h7.obj
  unfold edO at oe7
  have h8:=h7.by Imp.sw
  have hO:=h8.own
  have hdl2:=hF.len
  have tki:(edA T).take (k+1)=(edA T).take k ++ [(ef,eq,et)]:=take_snoc he
  obtain ⟨xt,hxt⟩:∃x,d2[et]? = some x:=⟨_,List.getElem?_eq_getElem (by omega)⟩
  obtain ⟨xf,hxf⟩:∃x,d2[ef]? = some x:=⟨_,List.getElem?_eq_getElem (by omega)⟩
  have hxtd:d2.getD et false=xt:=by simp [List.getD,hxt]
  have hxfd:d2.getD ef false=xf:=by simp [List.getD,hxf]
  have hti:(et:Int) < d2.length:=by omega
  have hfi:(ef:Int) < d2.length:=by omega
  have cO:=hO.vw
  have ct:=bE_cell cO hxt
  have cf:=bE_cell cO hxf
  have keep:(xf=true→xt=true)→Rcf T r N s0 (k+1) ch2 d2:=fun hh=>⟨hdl2,hF.ok,fun hc=>by
   rw [tki]
   intro x hx
   rcases List.mem_append.1 hx with h | h
   ·exact hF.clo hc x h
   ·simp at h; subst h
    intro h1
    have h1:d2.getD ef false=true:=h1
    show d2.getD et false=true
    rw [hxfd] at h1
    rw [hxtd]
    exact hh h1,hF.lt,hF.le⟩
  cases xf with
  | false =>
   simp (disch:=omega) [g5,g6,g23,g24,g25,g9,g7,cell_blk oe7,cO.idx,cf]
   unfold RdE
   exact ⟨by simp [g5],by simp [g6],by simp [g23],d2,ch2,by simp [g7],keep (by simp),h7.drop⟩
  | true =>
   cases xt with
   | true =>
    simp (disch:=omega) [g5,g6,g23,g24,g25,g9,g7,cell_blk oe7,cO.idx,cf,ct]
    unfold RdE
    exact ⟨by simp [g5],by simp [g6],by simp [g23],d2,ch2,by simp [g7],keep (by simp),h7.drop⟩
   | false =>
    simp (disch:=omega) [g5,g6,g23,g24,g25,g9,g7,cell_blk oe7,cO.idx,cf,ct]
    have ea:dv.adr.add et=⟨dv.blk,et,none⟩:=by
     rcases hO with ⟨rfl,h⟩ | ⟨g,cap,cur,junk,rfl,hh,_⟩
     ·rw [h] at hfi; simp at hfi; omega
     ·simp [Value.adr,Value.blk,Addr.add]; try omega
    rw [ea]
    have hLE:Lcl (Star (ObjA fb (edO (ef,eq,et))) (Star (OwnA ev 99 3 edE (edA T)) Emp)):=Lcl.obj.star (Lcl.own.star .emp)
    refine h8.store1 hLE bE_len bE_one (k:=et) (by omega) (x:=true) rfl fun w9 h10=>?_
    simp [g24,g25]
    unfold RdE
    have hle:=hF.le
    have hlt:=fN_set hxt
    exact ⟨by simp [g5],by simp [g6],by simp [g23],d2.set et true,true,by simp,⟨by rw [List.length_set]; exact hdl2,hF.ok.step hem hxfd (by show et < _; omega),(fun h=>by cases h),(fun _=>by omega),by omega⟩,h10.by (Imp.un Imp.dr)⟩
end Go.Proofs.YtcoeknnghfajnaaGreat
end
section
namespace Go.Proofs.YtcoeknnghfajnaaGreat
open Go Go.W Go.Tk Go.Rx Go.Bd Go.Sy Go.Maps
def RelsZ (T:Nt) (G:BFn):Prop:=∃o ∈ T.ops,RelS2 T o G
def WR (T:Nt) (G:BFn):Prop:=W0Z T G∨RelsZ T G
def relsN (T:Nt) (l:List No):Nat:=(l.map fun o=>relZ (nBits T.vars) (preL T.vars o)).sum
def opC (T:Nt) (o:No):Nat:=imZ (nBits T.vars) (preL T.vars o)+2 ^ (nBits T.vars - 3)
def rndN (T:Nt) (l:List No):Nat:=(l.map (opC T)).sum
theorem cov_wr {T:Nt} (hT:SmC T):CovW (2 * nBits T.vars) (WR T) (n0Z (nBits T.vars)+relsN T T.ops):=by
 have key:∀l:List No,(∀o ∈ l,o ∈ T.ops)→CovR (2 * nBits T.vars) (ShZ T.vars) (fun G=>(∃o ∈ l,RelS2 T o G)∧¬W0Z T G) (relsN T l):=by
  intro l
  induction l with
  | nil=>exact fun _=>(CovR.none _ _).mono (fun G ⟨⟨o,h,_⟩,_⟩=>by cases h) (Nat.zero_le _)
  | cons o l ih =>
   intro h
   have ho:=h o (by simp)
   refine ((w0z_rel hT.vars (hT.ops o ho) (hT.el o ho)).or (ih fun x hx=>h x (by simp [hx]))).mono (fun G ⟨⟨x,hx,hr⟩,hn⟩=>?_) (Nat.le_refl _)
   rcases List.mem_cons.1 hx with rfl | hx
   ·exact .inl ⟨hr,hn⟩
   ·exact .inr ⟨⟨x,hx,hr⟩,hn⟩
 refine (CovR.join (cov_w0z hT) w0z_sh (key T.ops fun _ h=>h)).mono (fun G h=>?_) (Nat.le_refl _)
 by_cases h0:W0Z T G
 ·exact .inl h0
 ·exact h.elim .inl fun h=>.inr ⟨h,h0⟩
def RunW (T:Nt) (lim N:Nat) (ns:Ns):Prop:=RunR (2 * nBits T.vars) lim (ShZ T.vars) (WR T) N ns
theorem RunW.step {T:Nt} {lim N N1:Nat} {W:BFn→Prop} {e:Bool} {ns ns':Ns} (h:RunW T lim N ns) (hT:SmC T) (hs:Stp (2 * nBits T.vars) lim (fun G=>WR T G∨W G) false ns e ns') (hc:CovR (2 * nBits T.vars) (ShZ T.vars) W N1) (hl:n0Z (nBits T.vars)+relsN T T.ops+(N+N1) < lim):e=false∧RunW T lim (N+N1) ns' :=
 RunR.step h (cov_wr hT) (fun G h=>.inl (w0z_sh G h)) hs hc hl
theorem RunW.start {T:Nt} {lim:Nat} {e:Bool} {ns:Ns} (hT:SmC T) (hs:Stp (2 * nBits T.vars) lim (WR T) false [] e ns) (hl:n0Z (nBits T.vars)+relsN T T.ops < lim):e=false∧RunW T lim 0 ns:=RunR.start (cov_wr hT) (fun G h=>.inl (w0z_sh G h)) hs hl
theorem cov_sF {T:Nt} {l:List Go.Tk.Fc} (hr:FcRng T.vars l) (hl:l.length≤12):CovR (2 * nBits T.vars) (ShZ T.vars) (fun G=>∃j,j < l.length∧G=fcB T.vars l j) (12 * (3 * nBits T.vars)) :=
 CovR.toZ ((CovR.eachW (fun j G=>G=fcB T.vars l j) _ fun j _=>(pf_fc (fun f hf=>(hr f hf).1) j).cov.toR).mono (fun _ h=>h) (Nat.mul_le_mul_right _ hl))
def rcM (b R:Nat):Nat:=max (relZ b false+R * (imZ b false+2 ^ (b - 3))) (relZ b true+R * (imZ b true+2 ^ (b - 3)))
theorem rch_num:∀b,b < 12→∀n,n < 21→n0Z b+(12 * (3 * b)+ctC b)+n * rcM b (30 / n+1) < 1048576:=by decide +kernel
theorem rcM_le (T:Nt) (R:Nat):∀l:List No,relsN T l+R * rndN T l≤l.length * rcM (nBits T.vars) R
 | []=>by simp [relsN,rndN]
 | o :: l=>by
  have ih:=rcM_le T R l
  have h1:relZ (nBits T.vars) (preL T.vars o)+R * opC T o≤rcM (nBits T.vars) R:=by
   unfold rcM opC
   cases preL T.vars o
   ·exact Nat.le_max_left _ _
   ·exact Nat.le_max_right _ _
  unfold relsN rndN at ih ⊢
  rw [List.map_cons,List.map_cons,List.sum_cons,List.sum_cons,Nat.mul_add,List.length_cons,Nat.add_mul,Nat.one_mul]
  omega
theorem rch_all {T:Nt} (hT:SmC T) (hol:T.ops.length≤20) {r:Nat} (hr:r * T.ops.length≤30):n0Z (nBits T.vars)+relsN T T.ops+((12 * (3 * nBits T.vars)+ctC (nBits T.vars))+(r * rndN T T.ops+rndN T T.ops)) < 1048576:=by
 have hb:=hT.bs.1
 have h1:=rch_num (nBits T.vars) (by omega) T.ops.length (by omega)
 have h2:=rcM_le T (30 / T.ops.length+1) T.ops
 have h3:r * rndN T T.ops+rndN T T.ops≤(30 / T.ops.length+1) * rndN T T.ops:=by
  rw [Nat.add_mul,Nat.one_mul]
  rcases Nat.eq_zero_or_pos T.ops.length with h | h
  ·have:T.ops=[]:=List.eq_nil_of_length_eq_zero h
   rw [this]
   simp [rndN]
  ·exact Nat.add_le_add_right (Nat.mul_le_mul_right _ ((Nat.le_div_iff_mul_le h).2 hr)) _
 omega
end Go.Proofs.YtcoeknnghfajnaaGreat
end
section
namespace Go.Proofs.YtcoeknnghfajnaaGreat
open Go Go.W Go.Tk Go.Rx Go.Bd Go.Sy Go.Maps
theorem stT_inj {vars:List Nat} {P Q:List Nat→Bool} (h:stT vars P=stT vars Q) {s:List Nat} (hs:StN vars s):P s=Q s:=by
 have h1:=stT_at (P:=P) (rk_all hs)
 rw [h,stT_at (rk_all hs)] at h1
 exact (Option.some.inj h1).symm
theorem set_eq {vars:List Nat} {ns:Ns} {x y:Nat} {P Q:List Nat→Bool} (hv:∀n ∈ vars,n≤64) (hw:Wf (2 * nBits vars) ns) (hx:SetOk vars ns x P) (hy:SetOk vars ns y Q):x=y↔stT vars P=stT vars Q:=by
 constructor
 ·rintro rfl
  refine stT_congr fun s hs=>?_
  have e:rs vars (mk2 vars s []) 0=s:=rs_mk2 hv hs
  have h1:=hx.2 (mk2 vars s [])
  rw [hy.2,e,okB_iff.2 (by rw [e]; exact hs)] at h1
  exact h1.symm
 ·intro h
  refine canon hw hx.1 hy.1 fun a=>?_
  rw [hx.2,hy.2]
  cases ho:okB vars a with
  | false=>rfl
  | true =>
   show (true && P (rs vars a 0))=(true && Q (rs vars a 0))
   rw [stT_inj h (okB_iff.1 ho)]
end Go.Proofs.YtcoeknnghfajnaaGreat
end
section
namespace Go.Proofs.YtcoeknnghfajnaaGreat
open Go Go.W Go.Tk Go.Rx Go.Bd Go.Sy Go.Maps
structure RdP (T:Nt) (P:List Nat→Bool):Prop where
 init:P T.init=true
 low:∀C:List Nat→Prop,C T.init→(∀s o,StN T.vars s→o ∈ T.ops→hdB s o.pre=true→C s→C (apS o s))→∀s,StN T.vars s→P s=true→C s
theorem img_iff {T:Nt} {o:No} {P:List Nat→Bool} {s:List Nat}:imgP T o P s=true↔∃x,StN T.vars x∧P x=true∧hdB x o.pre=true∧apS o x=s:=by
 unfold imgP
 rw [List.any_eq_true]
 constructor
 ·rintro ⟨x,hx,h⟩
  simp only [Bool.and_eq_true,decide_eq_true_eq] at h
  exact ⟨x,sts_st hx,h.1.1,h.1.2,h.2⟩
 ·rintro ⟨x,hx,h1,h2,h3⟩
  exact ⟨x,sts_mem.2 hx,by simp only [Bool.and_eq_true,decide_eq_true_eq]; exact ⟨⟨h1,h2⟩,h3⟩⟩
def RdC (T:Nt) (P:List Nat→Bool):Prop:=∀s o,StN T.vars s→o ∈ T.ops→hdB s o.pre=true→P s=true→P (apS o s)=true
structure RdK (T:Nt) (P0:List Nat→Bool) (k:Nat) (P:List Nat→Bool):Prop where
 ok:RdP T P
 up:∀s,StN T.vars s→P0 s=true→P s=true
 im:∀j o,j < k→T.ops[j]? = some o→∀s,StN T.vars s→P0 s=true→hdB s o.pre=true→P (apS o s)=true
theorem RdK.zero {T:Nt} {P:List Nat→Bool} (h:RdP T P):RdK T P 0 P:=⟨h,fun s _ h=>h,fun j o hj=>by omega⟩
theorem RdK.step {T:Nt} {P0 P:List Nat→Bool} {k:Nat} {o:No} (h:RdK T P0 k P) (ho:T.ops[k]? = some o):RdK T P0 (k+1) fun s=>P s || imgP T o P s:=by
 have hom:=List.mem_of_getElem? ho
 refine ⟨⟨by show (P T.init || _)=true; rw [h.ok.init]; rfl,fun C c0 c1 s hs hp=>?_⟩,fun s hs hp=>?_,fun j o' hj ho' s hs hp hd=>?_⟩
 ·rcases Bool.or_eq_true_iff.1 hp with hp | hp
  ·exact h.ok.low C c0 c1 s hs hp
  ·obtain ⟨x,hx,h1,h2,rfl⟩:=img_iff.1 hp
   exact c1 x o hx hom h2 (h.ok.low C c0 c1 x hx h1)
 ·show (P s || _)=true
  rw [h.up s hs hp]; rfl
 ·show (P _ || _)=true
  rcases (show j < k∨j=k by omega) with hj | rfl
  ·rw [h.im j o' hj ho' s hs hp hd]; rfl
  ·rw [ho] at ho'
   cases ho'
   rw [img_iff.2 ⟨s,hs,h.up s hs hp,hd,rfl⟩,Bool.or_true]
theorem RdK.clo {T:Nt} {P0 P:List Nat→Bool} (h:RdK T P0 T.ops.length P) (e:∀s,StN T.vars s→P s=true→P0 s=true):RdC T P:=fun s o hs ho hd hp=>by
 obtain ⟨j,hj,e2⟩:=List.mem_iff_getElem.1 ho
 exact h.im j o hj (by rw [List.getElem?_eq_getElem hj,e2]) s hs (e s hs hp) hd
theorem flt_le {α:Type} {P Q:α→Bool}:∀{l:List α},(∀x ∈ l,P x=true→Q x=true)→(l.filter P).length≤(l.filter Q).length
 | [],_=>Nat.le_refl _
 | a :: l,h=>by
  have ih:=flt_le (l:=l) fun x hx=>h x (by simp [hx])
  have ha:=h a (by simp)
  rw [List.filter_cons,List.filter_cons]
  cases hp:P a with
  | false =>
   rw [if_neg Bool.false_ne_true]
   split
   ·rw [List.length_cons]; omega
   ·exact ih
  | true =>
   rw [if_pos rfl,ha hp,if_pos rfl,List.length_cons,List.length_cons]
   omega
theorem flt_lt {α:Type} {P Q:α→Bool}:∀{l:List α} {x:α},(∀x ∈ l,P x=true→Q x=true)→x ∈ l→P x=false→Q x=true→(l.filter P).length < (l.filter Q).length
 | [],_,_,h,_,_=>by cases h
 | a :: l,x,h,hx,h1,h2=>by
  have h':∀x ∈ l,P x=true→Q x=true:=fun x hx=>h x (by simp [hx])
  have ha:=h a (by simp)
  rw [List.filter_cons,List.filter_cons]
  rcases List.mem_cons.1 hx with rfl | hx
  ·rw [h1,h2]
   have:=flt_le h'
   simp
   omega
  ·have ih:=flt_lt h' hx h1 h2
   cases hp:P a with
   | false =>
    rw [if_neg Bool.false_ne_true]
    split
    ·rw [List.length_cons]; omega
    ·exact ih
   | true =>
    rw [if_pos rfl,ha hp,if_pos rfl,List.length_cons,List.length_cons]
    omega
theorem ct_more {vars:List Nat} {P Q:List Nat→Bool} (h:∀s,StN vars s→P s=true→Q s=true) (hn:¬∀s,StN vars s→Q s=true→P s=true):ctN vars P+1≤ctN vars Q:=by
 obtain ⟨x,hx⟩:=Classical.not_forall.1 hn
 obtain ⟨h1,hx⟩:=Classical.not_imp.1 hx
 obtain ⟨h2,hx⟩:=Classical.not_imp.1 hx
 exact flt_lt (fun s hs=>h s (sts_st hs)) (sts_mem.2 h1) (Bool.eq_false_iff.2 hx) h2
theorem ct_single {vars st:List Nat} (hs:StN vars st):ctN vars (fun x=>decide (x=st))=1:=by
 have key:=(List.perm_ext_iff_of_nodup ((sts_nd vars vars.length).filter fun x=>decide (x=st)) (l₂:=[st]) (by simp)).2 fun x=>by
  rw [List.mem_filter,sts_mem]
  simp
  rintro rfl
  exact hs
 exact key.length_eq
theorem edS_mk {T:Nt} {i:Nat} {s:List Nat} {op:Nat} {o:No} (ho:T.ops[op]? = some o) (hp:hdB s o.pre=true):∀q,op < q→(i,op,rkK T.vars (apS o s) T.vars.length) ∈ edS T i s q
 | 0,h=>by omega
 | q+1,h=>by
  unfold edS
  by_cases e:op=q
  ·subst e
   refine List.mem_append.2 (.inr ?_)
   rw [ho]
   simp [hp]
  ·exact List.mem_append.2 (.inl (edS_mk ho hp q (by omega)))
theorem edK_mk {T:Nt} {i:Nat} {s:List Nat} {op:Nat} {o:No} (hs:(stsK T.vars T.vars.length)[i]? = some s) (ho:T.ops[op]? = some o) (hp:hdB s o.pre=true):∀n,i < n→(i,op,rkK T.vars (apS o s) T.vars.length) ∈ edK T n
 | 0,h=>by omega
 | n+1,h=>by
  unfold edK
  by_cases e:i=n
  ·subst e
   refine List.mem_append.2 (.inr ?_)
   rw [hs]
   exact edS_mk ho hp _ (List.getElem?_eq_some_iff.1 ho).1
  ·exact List.mem_append.2 (.inl (edK_mk hs ho hp n (by omega)))
theorem rch_tab {T:Nt} {P:List Nat→Bool} {d:List Bool} (hg:NtG T) (hi:StN T.vars T.init) (hP:RdP T P) (hc:RdC T P) (hd:RcOk (edA T) (rkK T.vars T.init T.vars.length) d) (hdc:RcClo (edA T) d) {s:List Nat} (hs:StN T.vars s):d.getD (rkK T.vars s T.vars.length) false=P s:=by
 rw [Bool.eq_iff_iff]
 constructor
 ·intro h
  obtain ⟨x,hx,hp⟩:=hd.low (fun j=>∃x,(stsK T.vars T.vars.length)[j]? = some x∧P x=true) ⟨T.init,rk_all hi,hP.init⟩ (fun e he ⟨x,hx,hp⟩=>by
   obtain ⟨y,o,h1,h2,h3,h4⟩:=edK_mem he
   rw [hx] at h1
   cases h1
   have hxs:=sts_st (List.mem_of_getElem? hx)
   have hom:=List.mem_of_getElem? h2
   exact ⟨apS o x,by rw [h4]; exact rk_all (apS_st hxs (hg.ops o hom)),hc x o hxs hom h3 hp⟩) _ h
  rw [rk_all hs] at hx
  cases hx
  exact hp
 ·intro h
  refine (hP.low (fun x=>StN T.vars x∧d.getD (rkK T.vars x T.vars.length) false=true) ⟨hi,hd.z⟩ (fun x o hx ho hp ⟨_,h1⟩=>?_) s hs h).2
  obtain ⟨j,hj,e2⟩:=List.mem_iff_getElem.1 ho
  have hr:=rk_all hx
  exact ⟨apS_st hx (hg.ops o ho),hdc _ (edK_mk hr (show T.ops[j]? = some o by rw [List.getElem?_eq_getElem hj,e2]) hp _ (List.getElem?_eq_some_iff.1 hr).1) h1⟩
end Go.Proofs.YtcoeknnghfajnaaGreat
end
section
namespace Go.Proofs.YtcoeknnghfajnaaGreat
open Go Go.W Go.Tk Go.Rx Go.Bd Go.Sy Go.Maps
theorem getM_ksR {ks:List (Nat × Bool)} {x y:Nat} {e:Bool} (h:getM ks y=some true):getM (ksR ks x e) y=some true:=by
 unfold ksR
 split
 ·exact h
 ·by_cases hxy:y=x
  ·subst hxy; exact getM_put _ _ _
  ·rw [getM_put_ne (Ne.symm hxy)]; exact h
theorem Kn.step {lim:Nat} {T':Nt} {ns ns':Ns} {ks:List (Nat × Bool)} {x y:Nat} {e e':Bool} {P:List Nat→Bool} {W:BFn→Prop} (h:Kn T' ns ks y P) (hw:SpOk T'.vars lim ns) (hs:Stp (2 * nBits T'.vars) lim W false ns e' ns'):Kn T' ns' (ksR ks x e) y P :=
 ⟨getM_ksR h.kn,h.ok.stp hw hs⟩
end Go.Proofs.YtcoeknnghfajnaaGreat
end
