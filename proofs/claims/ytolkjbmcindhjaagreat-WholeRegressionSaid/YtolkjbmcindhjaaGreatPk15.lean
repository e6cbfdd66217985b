/-
  Parts of the proof of this claim's statement; no conditions beyond those each theorem names.
-/
import Derived.Test.YtolkjbmcindhjaaGreatPk14
import Derived.Test.YtolkjbmcindhjaaGreatPk11
import Derived.Test.YtolkjbmcindhjaaGreatPk09
import Derived.Test.YtolkjbmcindhjaaGreatPk13
import Derived.Test.YtolkjbmcindhjaaGreatPk12
import Derived.Test.YtolkjbmcindhjaaGreatPk03
import Derived.HandedShaped
import Derived.Shelf.Vars
set_option maxRecDepth 100000
set_option linter.unusedSimpArgs false
set_option linter.unusedVariables false
set_option linter.unusedSectionVars false
set_option maxHeartbeats 8000000
section
namespace Go.Proofs.YtolkjbmcindhjaaGreat
open Go Go.W Go.Tk Go.Rx
open Go.Rb (zt)
theorem zOm(o:List (List Go.Tk.Fc))(z:List Go.Tk.Fc):(zCp o z).length<=o.length+1:=by
 unfold zCp;split<;>simp
theorem zOl{o:List (List Go.Tk.Fc)}{z:List Go.Tk.Fc}(h:o.Nodup):(zCp o z).Nodup:=by
 unfold zCp;split
 ·exact h
 ·rename_i hz;refine List.nodup_append.2 ⟨h,by simp,fun a ha b hb e=>?_⟩;simp at hb;subst hb;subst e;exact hz ha
theorem zJO:∀(l o:List (List Go.Tk.Fc)),(l.foldl zCp o).length<=o.length+l.length
 |[],o=>by simp
 |z::l,o=>by have h1:=zJO l (zCp o z);have h2:=zOm o z;simp only[List.foldl_cons,List.length_cons];omega
theorem zVm(x:List Go.Tk.Fc)(o:List (List Go.Tk.Fc))(y:List Go.Tk.Fc):(jn1 x o y).length<=o.length+1:=by
 unfold jn1;split
 ·exact zOm _ _
 ·omega
theorem zVl{x:List Go.Tk.Fc}{o:List (List Go.Tk.Fc)}{y:List Go.Tk.Fc}(h:o.Nodup):(jn1 x o y).Nodup:=by
 unfold jn1;split
 ·exact zOl h
 ·exact h
theorem zRF(x:List Go.Tk.Fc):∀(b o:List (List Go.Tk.Fc)),(jnR x b o).length<=o.length+b.length
 |[],o=>Nat.le_refl _
 |y::b,o=>by have h1:=zRF x b (jn1 x o y);have h2:=zVm x o y;show(jnR x b (jn1 x o y)).length<=_;simp only[List.length_cons];omega
theorem zRE{x:List Go.Tk.Fc}:∀(b o:List (List Go.Tk.Fc)),o.Nodup->(jnR x b o).Nodup
 |[],o,h=>h
 |y::b,o,h=>zRE b (jn1 x o y) (zVl h)
theorem zRJ(b:List (List Go.Tk.Fc)):∀(a o:List (List Go.Tk.Fc)),(a.foldl (fun o x=>jnR x b o) o).length<=o.length+a.length*b.length
 |[],o=>by simp
 |x::a,o=>by have h1:=zRJ b a (jnR x b o);have h2:=zRF x b o;simp only[List.foldl_cons,List.length_cons,Nat.succ_mul];omega
theorem zRI(b:List (List Go.Tk.Fc)):∀(a o:List (List Go.Tk.Fc)),o.Nodup->(a.foldl (fun o x=>jnR x b o) o).Nodup
 |[],o,h=>h
 |x::a,o,h=>zRI b a (jnR x b o) (zRE b o h)
theorem zRH(a b:List (List Go.Tk.Fc)):(jnL a b).length<=a.length*b.length:=by
 have:=zRJ b a [];unfold jnL;simpa using this
theorem zVk(a b:List (List Go.Tk.Fc)):(jnL a b).Nodup:=zRI b a [] List.nodup_nil
theorem zGY{vars:List Nat}{o:No}{p:List Go.Tk.Fc}:(rgP vars o p).Nodup:=by
 have:∀(p:List Go.Tk.Fc) (l:List (List Go.Tk.Fc)),l.Nodup->(p.foldl (fun l f=>jnL l (csL vars f o.effs)) l).Nodup:=by
  intro p
  induction p with
  |nil=>intro l h;exact h
  |cons f p ih=>intro l _;exact ih _ (zVk _ _)
 exact this p _ (by simp)
theorem zSB{f:Go.Tk.Fc}{n:Nat}(h:f.2<n):(zHD f n).length+1<=n:=by
 unfold zHD;rw[List.length_map];have:=List.Nodup.length_le_of_subset (l₁:=f.2::((List.range n).filter fun y=>decide (y≠f.2))) (l₂:=List.range n) (List.nodup_cons.2 ⟨fun hm=>by have:=(List.mem_filter.1 hm).2;simp at this,List.nodup_range.filter _⟩) fun y hy=>by
  rcases List.mem_cons.1 hy with rfl|hy
  ·exact List.mem_range.2 h
  ·exact(List.mem_filter.1 hy).1
 rw[List.length_cons,List.length_range] at this;exact this
structure CnS(vars:List Nat)(e:Nf):Prop where
 l2:e.cnd.length<=2
 r:∀g∈e.cnd,g.2<vars.getD g.1 0/\vars.getD g.1 0<=4
theorem zPK{vars:List Nat}{e:Nf}(h:CnS vars e):(zBV vars e.cnd).length<=6/\(e.cnd=[]->(zBV vars e.cnd).length=0):=by
 have:∀l:List Go.Tk.Fc,(∀g∈l,g.2<vars.getD g.1 0/\vars.getD g.1 0<=4)->(zBV vars l).length<=3*l.length:=by
  intro l
  induction l with
  |nil=>intro _;simp[zBV]
  |cons f l ih =>
   intro h;have h1:=ih fun g hg=>h g (by simp[hg]);obtain⟨h2,h3⟩:=h f (by simp);have h4:=zSB h2;have e1:zBV vars (f::l)=zHD f (vars.getD f.1 0)++zBV vars l:=by unfold zBV;rw[List.flatMap_cons]
   rw[e1,List.length_append,List.length_cons];omega
 refine⟨?_,fun he=>by rw[he];simp[zBV]⟩;have h1:=this e.cnd h.r;have:=h.l2;omega
def cN(x:Nat)(es:List Nf):Nat:=(es.filter (pC (0,x))).length
theorem zG1{vars:List Nat}{x:Nat}:∀(es:List Nf) (l:List (List Go.Tk.Fc)),(∀e∈es,CnS vars e)->(chL vars x l es).length<=l.length*6^cN x es
 |[],l,_=>by simp[chL,cN]
 |e::es,l,h=>by
  show(chL vars x (if e.x=x then l else jnL l (zBV vars e.cnd)) es).length<=_;have h1:=zG1 (x:=x) es (if e.x=x then l else jnL l (zBV vars e.cnd)) fun e he=>h e (by simp[he]);refine Nat.le_trans h1 ?_;obtain⟨h2,h3⟩:=zPK (h e (by simp));by_cases hx:e.x=x
  ·have:cN x (e::es)=cN x es:=by unfold cN;rw[List.filter_cons_of_neg (by simp[pC,hx])]
   rw[if_pos hx,this];exact Nat.le_refl _
  ·rw[if_neg hx];have h4:=zRH l (zBV vars e.cnd);by_cases hc:e.cnd=[]
   ·have:cN x (e::es)=cN x es:=by unfold cN;rw[List.filter_cons_of_neg (by simp[pC,hc])]
    rw[h3 hc,Nat.mul_zero] at h4;rw[Nat.le_zero.1 h4];omega
   ·have:cN x (e::es)=cN x es+1:=by unfold cN;rw[List.filter_cons_of_pos (by cases hq:e.cnd with|nil=>exact absurd hq hc|cons a b=>simp[pC,hx,hq]),List.length_cons]
    rw[this,Nat.pow_succ,Nat.mul_comm _ 6,<-Nat.mul_assoc];exact Nat.mul_le_mul_right _ (Nat.le_trans h4 (Nat.mul_le_mul_left _ h2))
theorem zWb{x:Nat}{es es':List Nf}(h:es.Sublist es'):cN x es<=cN x es':=(h.filter _).length_le
theorem zPO{vars:List Nat}{f:Go.Tk.Fc}{es:List Nf}(h:∀e∈es,CnS vars e){t:Nat}(ht:t<es.length):(zEE vars f es t).length<=(bif (match es[es.length-1-t]? with|some e=>decide (e.x=f.2)|none=>false) then 1 else 0)*6^cN f.2 es:=by
 unfold zEE;rw[if_pos ht,List.getElem?_eq_getElem (show es.length-1-t<es.length by omega)];simp only;split
 ·rename_i hx;rw[decide_eq_true hx,cond_true];refine Nat.le_trans (zG1 (x:=f.2) _ [_] fun e he=>h e (List.mem_of_mem_drop he)) ?_;exact Nat.mul_le_mul (by simp) (Nat.pow_le_pow_right (by omega) (zWb (List.drop_sublist _ _)))
 ·simp
def uN(x:Nat)(es:List Nf):Nat:=(es.filter fun e=>decide (e.x=x)).length
theorem zN3{vars:List Nat}{f:Go.Tk.Fc}{es:List Nf}(h:∀e∈es,CnS vars e):∀t,t<=es.length->(csT vars f es t).length<=uN f.2 (es.drop (es.length-t))*6^cN f.2 es
 |0,_=>by simp[csT]
 |t+1,ht=>by
  rw[zBG];have h1:=zJO (zEE vars f es t) (csT vars f es t);have h2:=zN3 (f:=f) h t (by omega);have h3:=zPO (f:=f) h (show t<es.length by omega);obtain⟨e,he⟩:∃e,es[es.length-1-t]? = some e:=⟨_,List.getElem?_eq_getElem (by omega)⟩;have hd:es.drop (es.length-(t+1))=e::es.drop (es.length-t):=by obtain⟨a,b⟩:=List.getElem?_eq_some_iff.1 he;have:=List.drop_eq_getElem_cons a;rw[show es.length-(t+1)=es.length-1-t by omega,this,b,show es.length-1-t+1=es.length-t by omega]
  rw[he] at h3;rw[hd];have h4:uN f.2 (e::es.drop (es.length-t))=uN f.2 (es.drop (es.length-t))+bif decide (e.x=f.2) then 1 else 0:=by unfold uN;by_cases hx:e.x=f.2<;>simp[hx]
  rw[h4,Nat.add_mul];simp only at h3;omega
theorem zTT{vars:List Nat}{f:Go.Tk.Fc}{effs:List Nf}(h:∀e∈effs,CnS vars e):(csL vars f effs).length<=2^uN f.2 (esF effs f.1)*6^cN f.2 (esF effs f.1):=by
 have hE:∀e∈esF effs f.1,CnS vars e:=fun e he=>h e (List.mem_filter.1 he).1;unfold csL;rw[zBG];have h1:=zJO (zEE vars f (esF effs f.1) (esF effs f.1).length) (csT vars f (esF effs f.1) (esF effs f.1).length);have h2:=zN3 (f:=f) hE _ (Nat.le_refl _);rw[Nat.sub_self,List.drop_zero] at h2;have h3:(zEE vars f (esF effs f.1) (esF effs f.1).length).length<=6^cN f.2 (esF effs f.1):=by unfold zEE;rw[if_neg (Nat.lt_irrefl _)];have:=zG1 (x:=f.2) _ [[f]] hE;simpa using this
 have h4:uN f.2 (esF effs f.1)+1<=2^uN f.2 (esF effs f.1):=Nat.lt_two_pow_self;have h5:=Nat.mul_le_mul_right (6^cN f.2 (esF effs f.1)) h4;rw[Nat.add_mul,Nat.one_mul] at h5;omega
theorem zJ0{vars:List Nat}{o:No}{p:List Go.Tk.Fc}(h:∀e∈o.effs,CnS vars e):∀m,m<=p.length->(rgP vars o (p.take m)).length<=2^((List.range m).map fun k=>uN (fK p k).2 (eK o p k)).sum*6^((List.range m).map fun k=>cN (fK p k).2 (eK o p k)).sum
 |0,_=>by simp[rgP]
 |m+1,hm=>by
  obtain⟨f,hf⟩:∃f,p[m]? = some f:=⟨_,List.getElem?_eq_getElem (by omega)⟩;have ef:fK p m=f:=by simp[fK,List.getD,hf]
  rw[zDI hf];have h1:=zJ0 (p:=p) h m (by omega);have h2:=zTT (f:=f) h;refine Nat.le_trans (zRH _ _) (Nat.le_trans (Nat.mul_le_mul h1 h2) ?_);rw[List.range_succ,List.map_append,List.map_append,List.sum_append_nat,List.sum_append_nat,Nat.pow_add,Nat.pow_add];simp only[List.map_cons,List.map_nil,List.sum_cons,List.sum_nil,Nat.add_zero];unfold eK;rw[ef,Nat.mul_mul_mul_comm];exact Nat.le_refl _
theorem zPX{vars:List Nat}{o:No}{p:List Go.Tk.Fc}(h:∀e∈o.effs,CnS vars e)(hp:(p.map (·.1)).Nodup)(he:o.effs.length<=8)(hc:(CA o p).length<=1):(rgP vars o p).length<=1024:=by
 have h1:=zJ0 (p:=p) h p.length (Nat.le_refl _);rw[List.take_length] at h1;have e1:((List.range p.length).map fun k=>cN (fK p k).2 (eK o p k)).sum=(CA o p).length:=by unfold CA;rw[zCF];rfl
 have e2:((List.range p.length).map fun k=>uN (fK p k).2 (eK o p k)).sum<=(occ o p pU).length+(occ o p pW).length:=by
  rw[zCF,zCF];have:∀l:List Nat,(l.map fun k=>uN (fK p k).2 (eK o p k)).sum<=(l.map fun k=>((eK o p k).filter (pU (fK p k))).length).sum+(l.map fun k=>((eK o p k).filter (pW (fK p k))).length).sum:=by
   intro l
   induction l with
   |nil=>exact Nat.le_refl _
   |cons k l ih =>
    have:∀es:List Nf,uN (fK p k).2 es<=(es.filter (pU (fK p k))).length+(es.filter (pW (fK p k))).length:=by
     intro es;unfold uN
     induction es with
     |nil=>simp
     |cons e es ih =>
      by_cases h1:e.x=(fK p k).2
      ·cases hq:e.cnd with
       |nil=>simp[pU,pW,h1,hq,List.filter_cons] at ih ⊢;omega
       |cons a b=>simp[pU,pW,h1,hq,List.filter_cons] at ih ⊢;omega
      ·simp[pU,pW,h1,List.filter_cons] at ih ⊢;omega
    have:=this (eK o p k);simp only[List.map_cons,List.sum_cons];omega
  exact this _
 have h2:=zM0 (o:=o) hp;have h3:(occ o p pC).length=(CA o p).length:=rfl;rw[e1] at h1;obtain⟨u,hu⟩:∃u,u=((List.range p.length).map fun k=>uN (fK p k).2 (eK o p k)).sum:=⟨_,rfl⟩;rw[<-hu] at h1 e2;rcases(show(CA o p).length=0\/(CA o p).length=1 by omega) with h0|h0
 ·rw[h0] at h1;have:2^u<=2^8:=Nat.pow_le_pow_right (by omega) (by omega);omega
 ·rw[h0] at h1;have:2^u<=2^7:=Nat.pow_le_pow_right (by omega) (by omega);omega
theorem cN_mn{x:Nat}(es:List Nf):cN x es<=mnF es:=by
 unfold cN mnF
 induction es with
 |nil=>simp
 |cons e es ih =>
  by_cases h1:e.x=x
  ·cases hq:e.cnd with
   |nil=>simp[pC,h1,hq,List.filter_cons] at ih ⊢;omega
   |cons a b=>simp[pC,h1,hq,List.filter_cons] at ih ⊢;omega
  ·cases hq:e.cnd with
   |nil=>simp[pC,h1,hq,List.filter_cons] at ih ⊢;omega
   |cons a b=>simp[pC,h1,hq,List.filter_cons] at ih ⊢;omega
theorem zTm{vars:List Nat}{effs es:List Nf}{x:Nat}{s:List Go.Tk.Fc}(h:∀e∈effs,CnS vars e)(hm:mnF effs<=3)(hs:es.Sublist effs):(chL vars x [s] es).length<=1024:=by
 have h1:=zG1 (x:=x) es [s] fun e he=>h e (hs.subset he);have h2:=Nat.le_trans (zWb (x:=x) hs) (cN_mn effs);have:6^cN x es<=6^3:=Nat.pow_le_pow_right (by omega) (by omega);simp only[List.length_cons,List.length_nil,Nat.zero_add,Nat.one_mul] at h1;omega
end Go.Proofs.YtolkjbmcindhjaaGreat
end
section
namespace Go.Proofs.YtolkjbmcindhjaaGreat
open Go Go.W Go.Tk Go.Rx
open Go.Rb (zt)
theorem zHq{α:Type}(f:α->Bool):∀l:List α,l.length=(l.filter f).length+(l.filter fun x=>!f x).length
 |[]=>rfl
 |x::l=>by
  have ih:=zHq f l;cases h:f x with
  |true=>rw[List.filter_cons_of_pos h,List.filter_cons_of_neg (by simp[h]),List.length_cons,List.length_cons];omega
  |false=>rw[List.filter_cons_of_neg (by simp[h]),List.filter_cons_of_pos (by simp[h]),List.length_cons,List.length_cons];omega
theorem zTJ{vars:List Nat}{o:No}{p:List Go.Tk.Fc}{used:Nat->Bool}:zB8 vars o p used<=kk o p fun _=>false:=Nat.le_trans (zVy used) (zS1 fun k h=>by cases h)
theorem fl_lt{vars:List Nat}{o:No}{p:List Go.Tk.Fc}{used:Nat->Bool}{k0:Nat}(JA:k0<p.length)(hK:K1 o p k0=true)(h1:used k0=true):zB8 vars o p used+1<=kk o p fun _=>false:=by
 have h2:=kk_lt (o:=o) (p:=p) (used:=fun _=>false) (used':=used) (fun k h=>by cases h) JA hK rfl h1;have h3:=zVy (vars:=vars) (o:=o) (p:=p) used;omega
theorem zQC{o:No}{p:List Go.Tk.Fc}(hp:(p.map (·.1)).Nodup){used:Nat->Bool}{k0:Nat}(JA:k0<p.length)(hK:K1 o p k0=false):Fl o p used (fK p k0).1=false:=by
 unfold Fl;rw[<-Bool.not_eq_true,List.any_eq_true];rintro⟨k,hk,h2⟩;simp only[Bool.and_eq_true,decide_eq_true_eq] at h2;have:=zNt hp (List.mem_range.1 hk) JA h2.1;subst this;rw[hK] at h2;exact absurd h2.2.1 (by decide)
theorem fl_eq{o:No}{p:List Go.Tk.Fc}{used used':Nat->Bool}{k0:Nat}(hK:K1 o p k0=false)(h:∀k,k≠k0->used' k=used k):Fl o p used'=Fl o p used:=by
 funext v;unfold Fl;congr 1;funext k;by_cases hk:k=k0
 ·subst hk;rw[hK];simp
 ·rw[h k hk]
theorem zVD{vars:List Nat}{o:No}{p W z:List Go.Tk.Fc}{used:Nat->Bool}{i:Nat->Nat}{u:Nat->Nat->Go.Tk.Fc}(hp:(p.map (·.1)).Nodup)(hv:vB z=true)(hr:PrR vars o p p.length z i u)(JB:∀g∈W,g∈z){k0:Nat}(hk:k0<p.length)(h0:i k0=0)(hu:used k0=false)(hK:K1 o p k0=false):fdF z (fK p k0).1∈Ov o p W used (fK p k0).1:=by
 have hf:fK p k0∈z:=by
  rcases hr.st k0 hk with⟨_,h⟩|⟨e,h,_⟩
  ·exact h
  ·exact absurd h0 h
 have e0:=zBb hv hf;unfold Ov;cases JA:fnd o.pre (fK p k0).1 with
 |some g =>obtain⟨h1,h2⟩:=zEN JA;have:=zBb hv (hr.pre g h1);rw[h2] at this;simp[this]
 |none =>
  simp only;cases hW:fnd W (fK p k0).1 with
  |some g =>obtain⟨h1,h2⟩:=zEN hW;have:=zBb hv (JB g h1);rw[h2] at this;simp[this]
  |none =>
   simp only;cases hq:(List.range p.length).find? fun k=>decide ((fK p k).1=(fK p k0).1) with
   |none =>have:=List.find?_eq_none.1 hq k0 (List.mem_range.2 hk);simp at this
   |some k =>have JC:=List.mem_range.1 (List.mem_of_find?_eq_some hq);have:=List.find?_some hq;simp only[decide_eq_true_eq] at this;have:=zNt hp JC hk this;subst this;simp[hu,hK,e0]
theorem st_W{vars:List Nat}{o:No}{p z:List Go.Tk.Fc}{i:Nat->Nat}{u:Nat->Nat->Go.Tk.Fc}(hr:PrR vars o p p.length z i u){k:Nat}{e:Nf}(hk:k<p.length)(hi:i k≠0)(he:(eK o p k)[i k-1]? = some e)(hc:e.cnd≠[]):(k,i k-1,e)∈occ o p pW:=by
 rcases hr.st k hk with⟨h0,_⟩|⟨e',_,h2,h3,_⟩
 ·exact absurd h0 hi
 ·rw[he] at h2;cases h2;refine zAt.2 ⟨hk,he,?_⟩;unfold pW;cases hq:e.cnd with
  |nil=>exact absurd hq hc
  |cons a b=>simp[h3]
theorem zSq{vars:List Nat}{o:No}{p z:List Go.Tk.Fc}{i:Nat->Nat}{u:Nat->Nat->Go.Tk.Fc}(hr:PrR vars o p p.length z i u)(h:∀y∈occ o p pW,i y.1≠y.2.1+1):Md o p (fun _=>false) [] z i:=by
 refine⟨fun k _ h=>(by cases h),fun k e hk _ hi he=>Classical.byContradiction fun hc=>?_,fun k e _ h=>(by cases h),fun g hg=>(by cases hg)⟩;exact h _ (st_W hr hk hi he hc) (by simp only;omega)
theorem zVW{vars:List Nat}{o:No}{p z:List Go.Tk.Fc}{i:Nat->Nat}{u:Nat->Nat->Go.Tk.Fc}(hr:PrR vars o p p.length z i u){y:Oc}(hy:occ o p pW=[y])(h:i y.1=y.2.1+1):Md o p (fun k=>k==y.1) y.2.2.cnd z i:=by
 have JA:=zAt.1 (show(y.1,y.2.1,y.2.2)∈occ o p pW by rw[hy];simp);have JB:(eK o p y.1)[i y.1-1]? = some y.2.2:=by rw[h];exact JA.2.1
 refine⟨fun k _ h2=>by simp only[beq_iff_eq] at h2;rw[h2];omega,fun k e hk hx hi he=>Classical.byContradiction fun hc=>?_,fun k e _ h2 he g hg=>?_,?_⟩
 ·have:=st_W hr hk hi he hc;rw[hy,List.mem_singleton] at this;rw[<-this] at hx;simp at hx
 ·simp only[beq_iff_eq] at h2;subst h2;rw[JB] at he;cases he;exact hg
 ·rcases hr.st y.1 JA.1 with⟨h0,_⟩|⟨e',_,h2,h3,h4⟩
  ·omega
  ·rw[JB] at h2;cases h2;exact h4
def zFe(i:Nat->Nat)(y:Oc):Bool:=decide (i y.1=y.2.1+1)
def zCL(T S:List Oc):List Oc:=S.filter fun x=>!(T.any fun y=>y.1==x.1&&decide (x.2.1<=y.2.1))
theorem zk{o:No}{p:List Go.Tk.Fc}{T:List Oc}:∀x∈zCL T (CA o p),x∈CA o p:=fun x hx=>(List.mem_filter.1 hx).1
theorem zA2{S:List Oc}:zCL [] S=S:=by unfold zCL;simp
theorem zGx{T S:List Oc}{x y:Oc}(hy:y∈T)(h1:x.1=y.1)(h2:x.2.1<=y.2.1):x∉zCL T S:=fun hx=>by
 have:=(List.mem_filter.1 hx).2;rw[Bool.not_eq_true',<-Bool.not_eq_true,List.any_eq_true] at this;exact this ⟨y,hy,by simp[h1,h2]⟩
theorem zOn{o:No}{p:List Go.Tk.Fc}{i:Nat->Nat}{Q:List Oc}(h:∀x∈CA o p,¬i x.1<=x.2.1->∃e,(x.1,i x.1-1,e)∈Q):zCq o p i=zCL (Q.filter (zFe i)) (CA o p):=by
 refine zWl fun x hx=>?_;rw[Bool.not_eq_true',<-Bool.not_eq_true,List.any_eq_true];constructor
 ·rintro h1 ⟨y,hy,h2⟩;obtain⟨_,h3⟩:=List.mem_filter.1 hy;unfold zFe at h3;simp only[decide_eq_true_eq,Bool.and_eq_true,beq_iff_eq] at h2 h3;rw[h2.1] at h3;omega
 ·intro h1;refine Classical.byContradiction fun hn=>?_;obtain⟨e,he⟩:=h x hx hn;refine h1 ⟨_,List.mem_filter.2 ⟨he,?_⟩,?_⟩
  ·unfold zFe;simp only[decide_eq_true_eq];omega
  ·rw[Bool.and_eq_true];exact⟨by simp,decide_eq_true (by simp only;omega)⟩
theorem zUS{o:No}{p:List Go.Tk.Fc}{a:Oc}(h:a∈KE o p):a.1<p.length/\∃x∈CA o p,x.1=a.1/\x.2.1<a.2.1:=by
 obtain⟨h1,j,e,h2,h3⟩:=zKA.1 (show(a.1,a.2.1,a.2.2)∈KE o p from h);exact⟨(zAt.1 h1).1,_,h2,rfl,h3⟩
theorem KE_nd{o:No}{p:List Go.Tk.Fc}:(KE o p).Nodup:=zEx.filter _
theorem KE_eq{o:No}{p:List Go.Tk.Fc}{a b:Oc}(ha:a∈KE o p)(hb:b∈KE o p)(h1:a.1=b.1)(h2:a.2.1=b.2.1):a=b:=by
 have h3:=(zAt.1 (zKA.1 (show(a.1,a.2.1,a.2.2)∈KE o p from ha)).1).2.1;have h4:=(zAt.1 (zKA.1 (show(b.1,b.2.1,b.2.2)∈KE o p from hb)).1).2.1;rw[h1,h2,h4] at h3;exact Prod.ext h1 (Prod.ext h2 (Option.some.inj h3).symm)
theorem zV9{o:No}{p:List Go.Tk.Fc}{T:List Oc}{a:Oc}(ha:a∈KE o p)(hT:a∈T):(zCL T (CA o p)).length+1<=(CA o p).length/\∀ex,usX o p ex (zCL T (CA o p)) a.1=true:=by
 obtain⟨h1,x,hx,h2,h3⟩:=zUS ha;have JA:x∉zCL T (CA o p):=zGx hT h2 (by omega);have:=List.Nodup.length_le_of_subset (l₁:=x::zCL T (CA o p)) (l₂:=CA o p) (List.nodup_cons.2 ⟨JA,zEx.filter _⟩) fun y hy=>by
  rcases List.mem_cons.1 hy with rfl|hy
  ·exact hx
  ·exact zk _ hy
 refine⟨by simpa using this,fun ex=>?_⟩;unfold usX;rw[(zEI zk).2 ⟨x,hx,h2,JA⟩];rfl
theorem cut2{o:No}{p:List Go.Tk.Fc}{T:List Oc}{a b:Oc}(ha:a∈KE o p)(hb:b∈KE o p)(JA:a.1≠b.1)(JC:a∈T)(JB:b∈T):(zCL T (CA o p)).length+2<=(CA o p).length:=by
 obtain⟨_,x,hx,h2,h3⟩:=zUS ha;obtain⟨_,y,hy,h4,h5⟩:=zUS hb;have n1:x∉zCL T (CA o p):=zGx JC h2 (by omega);have n2:y∉zCL T (CA o p):=zGx JB h4 (by omega);have:=List.Nodup.length_le_of_subset (l₁:=x::y::zCL T (CA o p)) (l₂:=CA o p) (List.nodup_cons.2 ⟨fun hm=>by
  rcases List.mem_cons.1 hm with e|hm
  ·rw[e] at h2;exact JA (h2.symm.trans h4)
  ·exact n1 hm,List.nodup_cons.2 ⟨n2,zEx.filter _⟩⟩) fun t ht=>by
  rcases List.mem_cons.1 ht with rfl|ht
  ·exact hx
  ·rcases List.mem_cons.1 ht with rfl|ht
   ·exact hy
   ·exact zk _ ht
 simpa using this
theorem zQp{o:No}{p:List Go.Tk.Fc}{k:Nat}:usX o p (fun _=>false) (CA o p) k=false:=by
 unfold usX;rw[Bool.or_false,<-Bool.not_eq_true,zEI fun x hx=>hx];rintro⟨x,hx,_,h⟩;exact h hx
theorem flt1{α:Type}(f:α->Bool)(a:α):[a].filter f=[]\/[a].filter f=[a]:=by cases h:f a<;>simp[h]
theorem flt2{α:Type}(f:α->Bool)(a b:α):[a,b].filter f=[]\/[a,b].filter f=[a]\/[a,b].filter f=[b]\/([a,b].filter f=[a,b]/\f a=true/\f b=true):=by
 cases h:f a<;>cases h2:f b<;>simp[h,h2]
end Go.Proofs.YtolkjbmcindhjaaGreat
end
section
namespace Go.Proofs.YtolkjbmcindhjaaGreat
open Go Go.W Go.Tk Go.Rx
open Go.Rb (zt)
theorem sum2{a b:List Oc×Nat}:([a,b].map (·.2)).sum=a.2+b.2:=by simp
theorem sum3{a b c:List Oc×Nat}:([a,b,c].map (·.2)).sum=a.2+b.2+c.2:=by simp[Nat.add_assoc]
theorem sum4{a b c d:List Oc×Nat}:([a,b,c,d].map (·.2)).sum=a.2+b.2+c.2+d.2:=by simp[Nat.add_assoc]
theorem zUi{a:List Oc×Nat}:([a].map (·.2)).sum=a.2:=by simp
theorem mem1{α:Type}{P:α->Prop}{a:α}(h:P a):∀c∈[a],P c:=fun c hc=>by rw[List.mem_singleton] at hc;rw[hc];exact h
theorem zDK{α:Type}{P:α->Prop}{a:α}{l:List α}(h:P a)(h2:∀c∈l,P c):∀c∈a::l,P c:=fun c hc=>by
 rcases List.mem_cons.1 hc with rfl|hc
 ·exact h
 ·exact h2 c hc
theorem zI3{vars:List Nat}{o:No}{p:List Go.Tk.Fc}{used:Nat->Bool}{k0 n:Nat}(JA:k0<p.length)(hK:K1 o p k0=true)(h1:used k0=true)(h:kk o p (fun _=>false)<=n+1):zB8 vars o p used<=n:=by
 have:=fl_lt (vars:=vars) JA hK h1;omega
theorem zNB{vars:List Nat}{o:No}{p z:List Go.Tk.Fc}{i:Nat->Nat}{u:Nat->Nat->Go.Tk.Fc}{W:List Go.Tk.Fc}(hr:PrR vars o p p.length z i u)(hm:Md o p (fun _=>false) W z i):zCq o p i=zCL ((KE o p).filter (zFe i)) (CA o p) :=
 zOn fun x hx JA=>zQ7 hr hm hx rfl JA
theorem zVp{vars:List Nat}{o:No}{p:List Go.Tk.Fc}(hX:Ctx vars o p){Z':List (List Go.Tk.Fc)}{I:List Go.Tk.Fc->Nat->Nat}{U:List Go.Tk.Fc->Nat->Nat->Go.Tk.Fc}(hZ:∀z∈Z',(zBA vars.length z/\PrR vars o p p.length z (I z) (U z)/\Md o p (fun _=>false) [] z (I z))/\zCq o p (I z)=CA o p){k0:Nat}(hk:k0<p.length)(hK:K1 o p k0=false):∀z∈Z',fdF z (fK p k0).1∈Ov o p [] (usX o p (fun _=>false) (CA o p)) (fK p k0).1:=fun z hz=>by
 obtain⟨⟨h1,h2,h3⟩,h4⟩:=hZ z hz;have JA:=zPk h2 h3;rw[h4] at JA;refine zVD hX.pd h1.v h2 (fun g hg=>by cases hg) hk (Classical.byContradiction fun hi=>?_) zQp hK;have:=JA.nu k0 hk zQp hi;rw[hK] at this;cases this
abbrev zWu(vars:List Nat)(o:No)(p:List Go.Tk.Fc)(I:List Go.Tk.Fc->Nat->Nat)(U:List Go.Tk.Fc->Nat->Nat->Go.Tk.Fc)(ex:Nat->Bool)(W:List Go.Tk.Fc)(L:List (List Go.Tk.Fc)):Prop:=∀z∈L,zBA vars.length z/\PrR vars o p p.length z (I z) (U z)/\Md o p ex W z (I z)
theorem sub8{S:List Oc}{a b c:Oc}(h:S=[a,b,c])(f:Oc->Bool):S.filter f∈[S,[a,b],[a,c],[b,c],[a],[b],[c],[]]:=by
 subst h;cases h1:f a<;>cases h2:f b<;>cases h3:f c<;>simp[h1,h2,h3]
theorem sub4{S:List Oc}{a b:Oc}(h:S=[a,b])(f:Oc->Bool):S.filter f∈[S,[a],[b],[]]:=by
 subst h;cases h1:f a<;>cases h2:f b<;>simp[h1,h2]
theorem pick{cs:List (List Oc×Nat)}{x:List Oc}(h:x∈cs.map (·.1)):∃c∈cs,x=c.1:=by
 obtain⟨c,h1,h2⟩:=List.mem_map.1 h;exact⟨c,h1,h2.symm⟩
theorem len3{vars:List Nat}{o:No}{p:List Go.Tk.Fc}(hX:Ctx vars o p)(hn:2<=vars.length)(hc:(CA o p).length=3)(hU:(occ o p pU).length<=5){L:List (List Go.Tk.Fc)}{I:List Go.Tk.Fc->Nat->Nat}{U:List Go.Tk.Fc->Nat->Nat->Go.Tk.Fc}(JB:L.Nodup)(hL:zWu vars o p I U (fun _=>false) [] L):L.length<=1024:=by
 have hA:∀z∈L,zCq o p (I z)=zCL ((KE o p).filter (zFe (I z))) (CA o p):=fun z hz=>zNB (hL z hz).2.1 (hL z hz).2.2;have JD:=zS2 o p;have hall:∀x∈CA o p,x∈CA o p:=fun x hx=>hx;have hH:=fun(Z':List (List Go.Tk.Fc)) (h:∀z∈Z',z∈L/\zCq o p (I z)=CA o p) (k0:Nat) (hk:k0<p.length) (hK:K1 o p k0=false)=>zVp hX (I:=I) (U:=U) (fun z hz=>⟨hL z (h z hz).1,(h z hz).2⟩) hk hK;have vl:∀k,k<p.length->(fK p k).1<vars.length:=fun k hk=>hX.pl _ (by unfold fK;rw[List.getD,List.getElem?_eq_getElem hk];exact List.getElem_mem _);have fle:=fun used=>zTJ (vars:=vars) (o:=o) (p:=p) (used:=used);rcases hκ:KE o p with _|⟨a,_|⟨b,_|⟨d,l⟩⟩⟩
 ·rw[hκ,List.length_nil] at JD;have:=zB6 (ex:=fun _=>false) (W:=[]) [(CA o p,1024)] L JB hL (fun z hz=>⟨_,List.Mem.head _,by rw[hA z hz,hκ];exact zA2⟩) (mem1 fun Z' JA _=>(n3 hX hn hall JA hc).1 (Nat.le_trans (fle _) (by omega)));rwa[zUi] at this
 ·rw[hκ] at JD;simp only[List.length_cons,List.length_nil] at JD;have ha:a∈KE o p:=by rw[hκ];simp
  obtain⟨ka,_⟩:=zUS ha;obtain⟨la,ua⟩:=zV9 ha (T:=[a]) (by simp);have JC:∀(x y:Nat),∀z∈L,∃c∈[(CA o p,x),(zCL [a] (CA o p),y)],zCq o p (I z)=c.1:=fun x y z hz=>by
   rw[hA z hz,hκ];rcases flt1 (zFe (I z)) a with h|h
   ·rw[h];exact⟨_,List.Mem.head _,zA2⟩
   ·rw[h];exact⟨_,List.mem_cons_of_mem _ (List.Mem.head _),rfl⟩
  cases hK:K1 o p a.1 with
  |true =>have:=zB6 (ex:=fun _=>false) (W:=[]) _ L JB hL (JC 784 240) (zDK (fun Z' JA _=>(n3 hX hn hall JA hc).2.1 (Nat.le_trans (fle _) (by omega))) (mem1 fun Z' JA _=>(n3' hX hn zk JA (by omega)).2.2.1 (zI3 ka hK (ua _) (by omega))));rw[sum2] at this;omega
  |false =>have:=zB6 (ex:=fun _=>false) (W:=[]) _ L JB hL (JC 672 336) (zDK (fun Z' JA h=>(nS3 hX hn hall JA hc (vl _ ka) (zQC hX.pd ka hK) (hH Z' h _ ka hK)).1 (Nat.le_trans (fle _) (by omega))) (mem1 fun Z' JA _=>(n3' hX hn zk JA (by omega)).2.1 (Nat.le_trans (fle _) (by omega))));rw[sum2] at this;omega
 ·rw[hκ] at JD;simp only[List.length_cons,List.length_nil] at JD;have ha:a∈KE o p:=by rw[hκ];simp
  have hb:b∈KE o p:=by rw[hκ];simp
  obtain⟨ka,_⟩:=zUS ha;obtain⟨kb,_⟩:=zUS hb;obtain⟨la,ua⟩:=zV9 ha (T:=[a]) (by simp);obtain⟨lb,ub⟩:=zV9 hb (T:=[b]) (by simp);by_cases JF:a.1=b.1
  ·have JH:a≠b:=by have:=KE_nd (o:=o) (p:=p);rw[hκ] at this;intro e;simp[e] at this
   have JC:∀(x y:Nat),∀z∈L,∃c∈[(CA o p,x),(zCL [a] (CA o p),y),(zCL [b] (CA o p),y)],zCq o p (I z)=c.1:=fun x y z hz=>by
    rw[hA z hz,hκ];rcases flt2 (zFe (I z)) a b with h|h|h|⟨h,h1,h2⟩
    ·rw[h];exact⟨_,List.Mem.head _,zA2⟩
    ·rw[h];exact⟨_,List.mem_cons_of_mem _ (List.Mem.head _),rfl⟩
    ·rw[h];exact⟨_,List.mem_cons_of_mem _ (List.mem_cons_of_mem _ (List.Mem.head _)),rfl⟩
    ·unfold zFe at h1 h2;simp only[decide_eq_true_eq] at h1 h2;rw[JF] at h1;exact absurd (KE_eq ha hb JF (by omega)) JH
   cases hK:K1 o p a.1 with
   |true =>
    have JG:K1 o p b.1=true:=by rw[<-JF];exact hK
    have:=zB6 (ex:=fun _=>false) (W:=[]) _ L JB hL (JC 760 120) (zDK (fun Z' JA _=>(n3 hX hn hall JA hc).2.2.1 (Nat.le_trans (fle _) (by omega))) (zDK (fun Z' JA _=>(n3' hX hn zk JA (by omega)).2.2.2 (zI3 ka hK (ua _) (by omega))) (mem1 fun Z' JA _=>(n3' hX hn zk JA (by omega)).2.2.2 (zI3 kb JG (ub _) (by omega)))));rw[sum3] at this;omega
   |false =>have:=zB6 (ex:=fun _=>false) (W:=[]) _ L JB hL (JC 496 240) (zDK (fun Z' JA h=>(nS3 hX hn hall JA hc (vl _ ka) (zQC hX.pd ka hK) (hH Z' h _ ka hK)).2 (Nat.le_trans (fle _) (by omega))) (zDK (fun Z' JA _=>(n3' hX hn zk JA (by omega)).2.2.1 (Nat.le_trans (fle _) (by omega))) (mem1 fun Z' JA _=>(n3' hX hn zk JA (by omega)).2.2.1 (Nat.le_trans (fle _) (by omega)))));rw[sum3] at this;omega
  ·have lab:=cut2 ha hb JF (T:=[a,b]) (by simp) (by simp);obtain⟨_,uab⟩:=zV9 ha (T:=[a,b]) (by simp);have JC:∀(x y t:Nat),∀z∈L,∃c∈[(CA o p,x),(zCL [a] (CA o p),y),(zCL [b] (CA o p),y),(zCL [a,b] (CA o p),t)],zCq o p (I z)=c.1:=fun x y t z hz=>by
    rw[hA z hz,hκ];rcases flt2 (zFe (I z)) a b with h|h|h|⟨h,h1,h2⟩
    ·rw[h];exact⟨_,List.Mem.head _,zA2⟩
    ·rw[h];exact⟨_,List.mem_cons_of_mem _ (List.Mem.head _),rfl⟩
    ·rw[h];exact⟨_,List.mem_cons_of_mem _ (List.mem_cons_of_mem _ (List.Mem.head _)),rfl⟩
    ·rw[h];exact⟨_,List.mem_cons_of_mem _ (List.mem_cons_of_mem _ (List.mem_cons_of_mem _ (List.Mem.head _))),rfl⟩
   have JE:∀k0,k0<p.length->K1 o p k0=false->L.length<=1024:=fun k0 kk hK=>by have:=zB6 (ex:=fun _=>false) (W:=[]) _ L JB hL (JC 496 240 48) (zDK (fun Z' JA h=>(nS3 hX hn hall JA hc (vl _ kk) (zQC hX.pd kk hK) (hH Z' h _ kk hK)).2 (Nat.le_trans (fle _) (by omega))) (zDK (fun Z' JA _=>(n3' hX hn zk JA (by omega)).2.2.1 (Nat.le_trans (fle _) (by omega))) (zDK (fun Z' JA _=>(n3' hX hn zk JA (by omega)).2.2.1 (Nat.le_trans (fle _) (by omega))) (mem1 fun Z' JA _=>(n2' hX hn zk JA (by omega)).2.2.1 (Nat.le_trans (fle _) (by omega))))));rw[sum4] at this;omega
   cases hK:K1 o p a.1 with
   |false=>exact JE _ ka hK
   |true =>
    cases JG:K1 o p b.1 with
    |false=>exact JE _ kb JG
    |true =>have:=zB6 (ex:=fun _=>false) (W:=[]) _ L JB hL (JC 760 120 24) (zDK (fun Z' JA _=>(n3 hX hn hall JA hc).2.2.1 (Nat.le_trans (fle _) (by omega))) (zDK (fun Z' JA _=>(n3' hX hn zk JA (by omega)).2.2.2 (zI3 ka hK (ua _) (by omega))) (zDK (fun Z' JA _=>(n3' hX hn zk JA (by omega)).2.2.2 (zI3 kb JG (ub _) (by omega))) (mem1 fun Z' JA _=>(n2' hX hn zk JA (by omega)).2.2.2 (zI3 ka hK (uab _) (by omega))))));rw[sum4] at this;omega
 ·rw[hκ] at JD;simp only[List.length_cons] at JD;obtain⟨x,y,t,hS⟩:∃x y t,CA o p=[x,y,t]:=by rcases hS:CA o p with _|⟨x,_|⟨y,_|⟨t,_|⟨r,l⟩⟩⟩⟩<;>rw[hS] at hc<;>simp at hc;exact⟨_,_,_,rfl⟩
  have hx:x∈CA o p:=by rw[hS];simp
  have hy:y∈CA o p:=by rw[hS];simp
  have ht:t∈CA o p:=by rw[hS];simp
  have s2:∀{a b:Oc},a∈CA o p->b∈CA o p->∀x∈[a,b],x∈CA o p:=fun ha hb=>zDK ha (mem1 hb);have b2:∀{a b:Oc},a∈CA o p->b∈CA o p->∀Z',ClL vars o p [a,b] (usX o p (fun _=>false) [a,b]) [] Z'->(∀z∈Z',z∈L/\zCq o p (I z)=[a,b])->Z'.length<=120:=fun ha hb Z' JA _=>(n3' hX hn (s2 ha hb) JA (by simp)).2.2.2 (Nat.le_trans (fle _) (by omega));have b1:∀{a:Oc},a∈CA o p->∀Z',ClL vars o p [a] (usX o p (fun _=>false) [a]) [] Z'->(∀z∈Z',z∈L/\zCq o p (I z)=[a])->Z'.length<=24:=fun ha Z' JA _=>(n2' hX hn (mem1 ha) JA (by simp)).2.2.2 (Nat.le_trans (fle _) (by omega));have:=zB6 (ex:=fun _=>false) (W:=[]) [(CA o p,588),([x,y],120),([x,t],120),([y,t],120),([x],24),([y],24),([t],24),([],4)] L JB hL (fun z hz=>pick (by have:=sub8 hS fun x=>decide (I z x.1<=x.2.1);exact this)) (zDK (fun Z' JA _=>(n3 hX hn hall JA hc).2.2.2 (Nat.le_trans (fle _) (by omega))) (zDK (b2 hx hy) (zDK (b2 hx ht) (zDK (b2 hy ht) (zDK (b1 hx) (zDK (b1 hy) (zDK (b1 ht) (mem1 fun Z' JA _=>n0 hX hn (fun x hx=>by cases hx) JA rfl (k:=2) (Nat.le_trans (fle _) (by omega)) (by omega)))))))));simpa using this
end Go.Proofs.YtolkjbmcindhjaaGreat
end
section
namespace Go.Proofs.YtolkjbmcindhjaaGreat
open Go Go.W Go.Tk Go.Rx
open Go.Rb (zt)
theorem zTR{o:No}{p:List Go.Tk.Fc}(hc:(CA o p).length=2){T:List Oc}{a:Oc}(ha:a∈KE o p)(hT:a∈T):(zCL T (CA o p)).length<=1:=by
 have:=(zV9 ha hT).1;omega
theorem len2{vars:List Nat}{o:No}{p:List Go.Tk.Fc}(hX:Ctx vars o p)(hn:2<=vars.length)(hc:(CA o p).length=2)(hU:(occ o p pU).length<=6){L:List (List Go.Tk.Fc)}{I:List Go.Tk.Fc->Nat->Nat}{U:List Go.Tk.Fc->Nat->Nat->Go.Tk.Fc}(JC:L.Nodup)(hL:zWu vars o p I U (fun _=>false) [] L):L.length<=1024:=by
 have hA:∀z∈L,zCq o p (I z)=zCL ((KE o p).filter (zFe (I z))) (CA o p):=fun z hz=>zNB (hL z hz).2.1 (hL z hz).2.2;have JB:=zS2 o p;have hall:∀x∈CA o p,x∈CA o p:=fun x hx=>hx;have fle:=fun used=>zTJ (vars:=vars) (o:=o) (p:=p) (used:=used);rcases hκ:KE o p with _|⟨a,_|⟨b,l⟩⟩
 ·rw[hκ,List.length_nil] at JB;have:=zB6 (ex:=fun _=>false) (W:=[]) [(CA o p,1024)] L JC hL (fun z hz=>⟨_,List.Mem.head _,by rw[hA z hz,hκ];exact zA2⟩) (mem1 fun Z' JA _=>(n2 hX hn hall JA hc).1 (Nat.le_trans (fle _) (by omega)));rwa[zUi] at this
 ·rw[hκ] at JB;simp only[List.length_cons,List.length_nil] at JB;have ha:a∈KE o p:=by rw[hκ];simp
  have:=zB6 (ex:=fun _=>false) (W:=[]) [(CA o p,688),(zCL [a] (CA o p),192)] L JC hL (fun z hz=>by
   rw[hA z hz,hκ];rcases flt1 (zFe (I z)) a with h|h
   ·rw[h];exact⟨_,List.Mem.head _,zA2⟩
   ·rw[h];exact⟨_,List.mem_cons_of_mem _ (List.Mem.head _),rfl⟩) (zDK (fun Z' JA _=>(n2 hX hn hall JA hc).2.1 (Nat.le_trans (fle _) (by omega))) (mem1 fun Z' JA _=>(n2' hX hn zk JA (zTR hc ha (by simp))).1 (Nat.le_trans (fle _) (by omega))))
  rw[sum2] at this;omega
 ·rw[hκ] at JB;simp only[List.length_cons] at JB;obtain⟨x,y,hS⟩:∃x y,CA o p=[x,y]:=by rcases hS:CA o p with _|⟨x,_|⟨y,_|⟨r,l⟩⟩⟩<;>rw[hS] at hc<;>simp at hc;exact⟨_,_,rfl⟩
  have hx:x∈CA o p:=by rw[hS];simp
  have hy:y∈CA o p:=by rw[hS];simp
  have b1:∀{a:Oc},a∈CA o p->∀Z',ClL vars o p [a] (usX o p (fun _=>false) [a]) [] Z'->(∀z∈Z',z∈L/\zCq o p (I z)=[a])->Z'.length<=96:=fun ha Z' JA _=>(n2' hX hn (mem1 ha) JA (by simp)).2.1 (Nat.le_trans (fle _) (by omega));have:=zB6 (ex:=fun _=>false) (W:=[]) [(CA o p,336),([x],96),([y],96),([],16)] L JC hL (fun z hz=>pick (by have:=sub4 hS fun x=>decide (I z x.1<=x.2.1);exact this)) (zDK (fun Z' JA _=>(n2 hX hn hall JA hc).2.2.1 (Nat.le_trans (fle _) (by omega))) (zDK (b1 hx) (zDK (b1 hy) (mem1 fun Z' JA _=>n0 hX hn (fun x hx=>by cases hx) JA rfl (k:=4) (Nat.le_trans (fle _) (by omega)) (by omega)))));rw[sum4] at this;omega
theorem zVX{vars:List Nat}{o:No}{p z:List Go.Tk.Fc}{i:Nat->Nat}{u:Nat->Nat->Go.Tk.Fc}{y:Oc}(hr:PrR vars o p p.length z i u)(hy:occ o p pW=[y])(h:i y.1=y.2.1+1):zCq o p i=zCL (y::(KE o p).filter (zFe i)) (CA o p):=by
 have hm:=zVW hr hy h;have:=zOn (o:=o) (p:=p) (i:=i) (Q:=y::KE o p) fun x hx JA=>by
  by_cases he:x.1=y.1
  ·exact⟨y.2.2,by have:(x.1,i x.1-1,y.2.2)=y:=Prod.ext he (Prod.ext (by simp only;rw[he,h];omega) rfl);rw[this];simp⟩
  ·obtain⟨e,h2⟩:=zQ7 hr hm hx (by simpa using he) JA;exact⟨e,List.mem_cons_of_mem _ h2⟩
 rw[this,List.filter_cons_of_pos (by unfold zFe;simp[h])]
theorem len2w{vars:List Nat}{o:No}{p:List Go.Tk.Fc}(hX:Ctx vars o p)(hn:2<=vars.length)(hc:(CA o p).length=2)(hU:(occ o p pU).length<=5){y:Oc}(hy:occ o p pW=[y]){L:List (List Go.Tk.Fc)}{I:List Go.Tk.Fc->Nat->Nat}{U:List Go.Tk.Fc->Nat->Nat->Go.Tk.Fc}(JF:L.Nodup)(hL:∀z∈L,zBA vars.length z/\PrR vars o p p.length z (I z) (U z)):L.length<=1024:=by
 have JB:=zS2 o p;have hall:∀x∈CA o p,x∈CA o p:=fun x hx=>hx;have fle:=fun used=>zTJ (vars:=vars) (o:=o) (p:=p) (used:=used);have JH:=zAt.1 (show(y.1,y.2.1,y.2.2)∈occ o p pW by rw[hy];simp);have ky:=JH.1;have vl:(fK p y.1).1<vars.length:=hX.pl _ (by unfold fK;rw[List.getD,List.getElem?_eq_getElem ky];exact List.getElem_mem _);rw[zHq (fun z=>zFe (I z) y) L];obtain⟨LE,JE⟩:∃l,l=L.filter fun z=>zFe (I z) y:=⟨_,rfl⟩;obtain⟨LN,JD⟩:∃l,l=L.filter fun z=>!zFe (I z) y:=⟨_,rfl⟩;rw[<-JE,<-JD];have ndE:LE.Nodup:=by rw[JE];exact JF.filter _
 have ndN:LN.Nodup:=by rw[JD];exact JF.filter _
 have aE:∀z∈LE,z∈L/\I z y.1=y.2.1+1:=fun z hz=>by rw[JE] at hz;obtain⟨h1,h2⟩:=List.mem_filter.1 hz;unfold zFe at h2;exact⟨h1,of_decide_eq_true h2⟩
 have mN:zWu vars o p I U (fun _=>false) [] LN:=fun z hz=>by rw[JD] at hz;obtain⟨h1,h2⟩:=List.mem_filter.1 hz;refine⟨(hL z h1).1,(hL z h1).2,zSq (hL z h1).2 ?_⟩;rw[hy];refine mem1 fun h3=>?_;unfold zFe at h2;simp[h3] at h2
 have mE:zWu vars o p I U (fun k=>k==y.1) y.2.2.cnd LE:=fun z hz=>⟨(hL z (aE z hz).1).1,(hL z (aE z hz).1).2,zVW (hL z (aE z hz).1).2 hy (aE z hz).2⟩;have cN:∀z∈LN,zCq o p (I z)=zCL ((KE o p).filter (zFe (I z))) (CA o p):=fun z hz=>zNB (mN z hz).2.1 (mN z hz).2.2;have cE:∀z∈LE,zCq o p (I z)=zCL (y::(KE o p).filter (zFe (I z))) (CA o p):=fun z hz=>zVX (mE z hz).2.1 hy (aE z hz).2;have l2:∀T,(zCL T (CA o p)).length<=2:=fun T=>by rw[<-hc];exact List.length_filter_le _ _
 rcases hκ:KE o p with _|⟨a,_|⟨b,l⟩⟩
 ·rw[hκ,List.length_nil] at JB;have csN:∀x:Nat,∀z∈LN,∃c∈[(CA o p,x)],zCq o p (I z)=c.1:=fun x z hz=>⟨_,List.Mem.head _,by rw[cN z hz,hκ];exact zA2⟩;have csE:∀x:Nat,∀z∈LE,∃c∈[(zCL [y] (CA o p),x)],zCq o p (I z)=c.1:=fun x z hz=>⟨_,List.Mem.head _,by rw[cE z hz,hκ];rfl⟩;have bN:=zB6 (ex:=fun _=>false) (W:=[]) _ LN ndN mN (csN 688) (mem1 fun Z' JA _=>(n2 hX hn hall JA hc).2.1 (Nat.le_trans (fle _) (by omega)));rw[zUi] at bN;cases hK:K1 o p y.1 with
  |true =>have bE:=zB6 (ex:=fun k=>k==y.1) (W:=y.2.2.cnd) _ LE ndE mE (csE 336) (mem1 fun Z' JA _=>(n3' hX hn zk JA (l2 _)).2.1 (zI3 ky hK (by unfold usX;simp) (by omega)));rw[zUi] at bE;omega
  |false =>
   by_cases JC:(zCL [y] (CA o p)).length=2
   ·have e1:zCL [y] (CA o p)=CA o p:=List.filter_sublist.eq_of_length (JC.trans hc.symm);have clN:ClL vars o p (CA o p) (usX o p (fun _=>false) (CA o p)) [] LN:=⟨ndN,fun z hz=>⟨(mN z hz).1,I z,U z,by have:=zPk (mN z hz).2.1 (mN z hz).2.2;rwa[cN z hz,hκ,List.filter_nil,zA2] at this⟩⟩;have clE:ClL vars o p (CA o p) (usX o p (fun k=>k==y.1) (CA o p)) y.2.2.cnd LE:=⟨ndE,fun z hz=>⟨(mE z hz).1,I z,U z,by have:=zPk (mE z hz).2.1 (mE z hz).2.2;rwa[cE z hz,hκ,List.filter_nil,e1] at this⟩⟩;have:=nU2 hX hn hall clN clE hc vl (fl_eq hK fun k hk=>by unfold usX;simp[hk]) (zQC hX.pd ky hK) (zVp hX (I:=I) (U:=U) (fun z hz=>⟨mN z hz,by rw[cN z hz,hκ];exact zA2⟩) ky hK) (Nat.le_trans (fle _) (by omega));omega
   ·have:=l2 [y];have bE:=zB6 (ex:=fun k=>k==y.1) (W:=y.2.2.cnd) _ LE ndE mE (csE 192) (mem1 fun Z' JA _=>(n2' hX hn zk JA (show(zCL [y] (CA o p)).length<=1 by omega)).1 (Nat.le_trans (fle _) (by omega)));rw[zUi] at bE;omega
 ·rw[hκ] at JB;simp only[List.length_cons,List.length_nil] at JB;have ha:a∈KE o p:=by rw[hκ];simp
  have bN:=zB6 (ex:=fun _=>false) (W:=[]) [(CA o p,336),(zCL [a] (CA o p),96)] LN ndN mN (fun z hz=>by
   rw[cN z hz,hκ];rcases flt1 (zFe (I z)) a with h|h
   ·rw[h];exact⟨_,List.Mem.head _,zA2⟩
   ·rw[h];exact⟨_,List.mem_cons_of_mem _ (List.Mem.head _),rfl⟩) (zDK (fun Z' JA _=>(n2 hX hn hall JA hc).2.2.1 (Nat.le_trans (fle _) (by omega))) (mem1 fun Z' JA _=>(n2' hX hn zk JA (zTR hc ha (by simp))).2.1 (Nat.le_trans (fle _) (by omega))))
  have bE:=zB6 (ex:=fun k=>k==y.1) (W:=y.2.2.cnd) [(zCL [y] (CA o p),336),(zCL [y,a] (CA o p),96)] LE ndE mE (fun z hz=>by
   rw[cE z hz,hκ];rcases flt1 (zFe (I z)) a with h|h
   ·rw[h];exact⟨_,List.Mem.head _,rfl⟩
   ·rw[h];exact⟨_,List.mem_cons_of_mem _ (List.Mem.head _),rfl⟩) (zDK (fun Z' JA _=>(n3' hX hn zk JA (l2 _)).2.1 (Nat.le_trans (fle _) (by omega))) (mem1 fun Z' JA _=>(n2' hX hn zk JA (zTR hc ha (by simp))).2.1 (Nat.le_trans (fle _) (by omega))))
  rw[sum2] at bN bE;omega
 ·rw[hκ] at JB;simp only[List.length_cons] at JB;obtain⟨x,x',hS⟩:∃x y,CA o p=[x,y]:=by rcases hS:CA o p with _|⟨x,_|⟨y,_|⟨r,l⟩⟩⟩<;>rw[hS] at hc<;>simp at hc;exact⟨_,_,rfl⟩
  have hx:x∈CA o p:=by rw[hS];simp
  have JG:x'∈CA o p:=by rw[hS];simp
  have all:∀{Z:List (List Go.Tk.Fc)} {ex:Nat->Bool} {W:List Go.Tk.Fc},Z.Nodup->zWu vars o p I U ex W Z->Z.length<=344:=fun {Z ex W} nd m=>by have b1:∀{a:Oc},a∈CA o p->∀Z',ClL vars o p [a] (usX o p ex [a]) W Z'->(∀z∈Z',z∈Z/\zCq o p (I z)=[a])->Z'.length<=48:=fun ha Z' JA _=>(n2' hX hn (mem1 ha) JA (by simp)).2.2.1 (Nat.le_trans (fle _) (by omega));have:=zB6 (ex:=ex) (W:=W) [(CA o p,240),([x],48),([x'],48),([],8)] Z nd m (fun z hz=>pick (by have:=sub4 hS fun x=>decide (I z x.1<=x.2.1);exact this)) (zDK (fun Z' JA _=>(n2 hX hn hall JA hc).2.2.2.1 (Nat.le_trans (fle _) (by omega))) (zDK (b1 hx) (zDK (b1 JG) (mem1 fun Z' JA _=>n0 hX hn (fun x hx=>by cases hx) JA rfl (k:=3) (Nat.le_trans (fle _) (by omega)) (by omega)))));rw[sum4] at this;omega
  have h1:=all ndE mE;have h2:=all ndN mN;omega
theorem zSs{vars:List Nat}{o:No}{p:List Go.Tk.Fc}(hX:Ctx vars o p)(hn:vars.length<=1)(JA:zBA vars.length o.pre){L:List (List Go.Tk.Fc)}{I:List Go.Tk.Fc->Nat->Nat}{U:List Go.Tk.Fc->Nat->Nat->Go.Tk.Fc}(JD:L.Nodup)(hL:∀z∈L,zBA vars.length z/\PrR vars o p p.length z (I z) (U z)):L.length<=1024:=by
 have JF:p.length<=1:=by
  have:=List.Nodup.length_le_of_subset (l₁:=p.map (·.1)) (l₂:=List.range vars.length) hX.pd fun v hv=>by obtain⟨f,hf,rfl⟩:=List.mem_map.1 hv;exact List.mem_range.2 (hX.pl f hf)
  rw[List.length_map,List.length_range] at this;omega
 have h:=List.Nodup.length_le_of_subset (l₁:=L) (l₂:=[]::(o.pre++p++(List.range 4).map fun x=>(0,x)).map fun g=>[g]) JD fun z hz=>by
  obtain⟨h1,h2⟩:=hL z hz;have hl:=h1.len;rcases z with _|⟨g,_|⟨g',z⟩⟩
  ·simp
  ·refine List.mem_cons_of_mem _ (List.mem_map.2 ⟨g,?_,rfl⟩);have JC:g.1=0:=by have:=h1.lt g (by simp);omega
   rw[List.mem_append,List.mem_append];have r4:∀x,x<4->g=(0,x)->g∈(List.range 4).map fun x=>((0,x):Go.Tk.Fc):=fun x hx e=>List.mem_map.2 ⟨x,List.mem_range.2 hx,e.symm⟩;have JE:∀e∈o.effs,∀g∈e.cnd,vars.getD g.1 0<=4:=fun e he g hg=>(hX.d2 g.1 (hX.es.lt e he g hg)).2;rcases h2.mem g (by simp) with h|⟨k,hk,_,e⟩|⟨k,e,hk,_,he,JB⟩|⟨k,j,e,hk,hj,he,hx,eg⟩
   ·exact .inl (.inl h)
   ·exact .inl (.inr (by rw[e];unfold fK;rw[List.getD,List.getElem?_eq_getElem hk];exact List.getElem_mem _))
   ·have hm:e∈o.effs:=(List.mem_filter.1 (List.mem_of_getElem? he)).1;have h3:=hX.cr e hm g JB;have h4:=(hX.d2 g.1 (hX.es.lt e hm g JB)).2;exact .inr (r4 g.2 (by omega) (Prod.ext JC rfl))
   ·have hm:e∈o.effs:=(List.mem_filter.1 (List.mem_of_getElem? he)).1;obtain⟨_,t,ht,h5,_,h6⟩:=h2.pk k j e hk hj he hx;have h7:=JE e hm t ht;exact .inr (r4 g.2 (by rw[eg];omega) (Prod.ext JC rfl))
  ·simp only[List.length_cons] at hl;omega
 have:=JA.len;simp only[List.length_cons,List.length_map,List.length_append,List.length_range] at h;omega
structure TmC(vars:List Nat)(o:No):Prop where
 d2:∀v,v<vars.length->2<=szV vars v/\szV vars v<=4
 P:zt ((List.range vars.length).map (szV vars))<=512
 es:EsG vars.length o.effs
 cr:∀e∈o.effs,∀g∈e.cnd,g.2<szV vars g.1
 pre:zBA vars.length o.pre
 el:o.effs.length<=8
 mn:mnF o.effs<=3
theorem TmC.cn{vars:List Nat}{o:No}(h:TmC vars o):∀e∈o.effs,CnS vars e:=fun e he=>⟨h.es.c2 e he,fun g hg=>⟨h.cr e he g hg,(h.d2 g.1 (h.es.lt e he g hg)).2⟩⟩
theorem zJ1{vars:List Nat}{o:No}{p:List Go.Tk.Fc}(hT:TmC vars o)(hp:(p.map (·.1)).Nodup)(JB:∀f∈p,f.1<vars.length):(rgP vars o p).length<=1024:=by
 have hX:Ctx vars o p:=⟨hT.d2,hT.P,hT.es,hT.cr,hp,JB⟩;have JC:=zEp hT.es hT.pre JB (vars:=vars);have JA:∀z:List Go.Tk.Fc,∃iu:(Nat->Nat)×(Nat->Nat->Go.Tk.Fc),z∈rgP vars o p->PrR vars o p p.length z iu.1 iu.2:=fun z=>by
  by_cases hz:z∈rgP vars o p
  ·have h1:=zJz (vars:=vars) (o:=o) (p:=p) p.length (Nat.le_refl _) z (by rw[List.take_length];exact hz);obtain⟨i,u,h⟩:=h1;exact⟨(i,u),fun _=>h⟩
  ·exact⟨(fun _=>0,fun _ _=>(0,0)),fun h=>absurd h hz⟩
 obtain⟨IU,JD⟩:=Classical.axiomOfChoice JA;have hL:∀z∈rgP vars o p,zBA vars.length z/\PrR vars o p p.length z (IU z).1 (IU z).2:=fun z hz=>⟨JC z hz,JD z hz⟩;by_cases hn:vars.length<=1
 ·exact zSs hX hn hT.pre (I:=fun z=>(IU z).1) (U:=fun z=>(IU z).2) zGY hL
 ·have h1:=zM0 (o:=o) hp;have h2:=zPf (o:=o) hp;have h3:=hT.el;have h4:=hT.mn;have JE:(occ o p pC).length=(CA o p).length:=rfl;rcases(show(CA o p).length<=1\/(CA o p).length=2\/(CA o p).length=3 by omega) with hc|hc|hc
  ·exact zPX hT.cn hp hT.el hc
  ·rcases hW:occ o p pW with _|⟨y,_|⟨t,l⟩⟩
   ·exact len2 hX (by omega) hc (by omega) (I:=fun z=>(IU z).1) (U:=fun z=>(IU z).2) zGY fun z hz=>⟨(hL z hz).1,(hL z hz).2,zSq (hL z hz).2 (by rw[hW];intro y hy;cases hy)⟩
   ·rw[hW] at h1;simp only[List.length_cons,List.length_nil] at h1;exact len2w hX (by omega) hc (by omega) hW (I:=fun z=>(IU z).1) (U:=fun z=>(IU z).2) zGY hL
   ·rw[hW] at h2;simp only[List.length_cons] at h2;omega
  ·rcases hW:occ o p pW with _|⟨y,l⟩
   ·exact len3 hX (by omega) hc (by omega) (I:=fun z=>(IU z).1) (U:=fun z=>(IU z).2) zGY fun z hz=>⟨(hL z hz).1,(hL z hz).2,zSq (hL z hz).2 (by rw[hW];intro y hy;cases hy)⟩
   ·rw[hW] at h2;simp only[List.length_cons] at h2;omega
end Go.Proofs.YtolkjbmcindhjaaGreat
end
section
namespace Go.Proofs.YtolkjbmcindhjaaGreat
open Go Go.W Go.Tk Go.Rx
open Go.Rb (zt)
theorem zJN:∀(l o:List (List Go.Tk.Fc)),o.Nodup->(l.foldl zCp o).Nodup
 |[],o,h=>h
 |z::l,o,h=>zJN l _ (zOl h)
theorem zWB{vars:List Nat}{f:Go.Tk.Fc}{effs:List Nf}:(csL vars f effs).Nodup:=by
 unfold csL;rw[zBG];have:∀t,(csT vars f (esF effs f.1) t).Nodup:=fun t=>by
  induction t with
  |zero=>simp[csT]
  |succ t ih=>rw[zBG];exact zJN _ _ ih
 exact zJN _ _ (this _)
theorem zVi{n:Nat}{z:List Go.Tk.Fc}(h:zBA n z):jn [] z=some z:=by
 have up:z.Pairwise fLt:=(zHJ h.v).imp fun h=>.inl h;have e:mkL ([]++z)=z:=zEC (zGg _) up fun g=>by rw[zCz];simp
 unfold jn;rw[e,if_pos h.v]
theorem TmC.cs{vars:List Nat}{o:No}(hT:TmC vars o){f:Go.Tk.Fc}(hf:f.1<vars.length):(csL vars f o.effs).length<=1024:=by
 have JA:TmC vars { o with pre:=[] }:=⟨hT.d2,hT.P,hT.es,hT.cr,⟨rfl,fun f hf=>by cases hf⟩,hT.el,hT.mn⟩;have h1:=zJ1 (p:=[f]) JA (by simp) (by simpa using hf);refine Nat.le_trans (zWB.length_le_of_subset fun z hz=>?_) h1;show z∈jnL [[]] (csL vars f o.effs);exact zDi.2 ⟨[],by simp,z,hz,zVi (zN4 hT.es hf z hz)⟩
theorem TmC.preC{vars:List Nat}{o:No}(hT:TmC vars o){p:List Go.Tk.Fc}(hp:(p.map (·.1)).Nodup)(JA:∀f∈p,f.1<vars.length):PreC vars o p :=
 ⟨fun f hf s a b=>zTm hT.cn hT.mn (((List.take_sublist _ _).trans (List.drop_sublist _ _)).trans List.filter_sublist),fun f hf=>hT.cs (JA f hf),fun i=>zJ1 hT (by rw[List.map_take];exact hp.sublist (List.take_sublist _ _)) fun f hf=>JA f (List.mem_of_mem_take hf)⟩
end Go.Proofs.YtolkjbmcindhjaaGreat
end
namespace Go.Proofs.YtolkjbmcindhjaaGreat
section
open Go Go.W Go.Tk Go.Rx Go.Bd Go.Sy Go.Maps
def vc2(i:Nat)(j:Nat):Bool:=i.testBit (1-j)
def ix2(b:Nat->Bool):Nat:=(if b 0 then 2 else 0)+(if b 1 then 1 else 0)
theorem zRK(b:Nat->Bool):ix2 b<4:=by unfold ix2;split<;>split<;>omega
theorem zUa(b:Nat->Bool):∀j,j<2->vc2 (ix2 b) j=b j:=fun j hj=>by
 unfold ix2 vc2;have:j=0\/j=1:=by omega
 rcases this with rfl|rfl<;>cases b 0<;>cases b 1<;>rfl
theorem cov2:zx 2 (fun G=>Go.Bd.Loc 2 G) 16:=by
 refine⟨(List.range 16).map fun m b=>m.testBit (3-ix2 b),by simp,fun G hG t a ht _=>?_⟩;obtain⟨m,hm,hb⟩:=zDs (fun i=>G (pfx a t (vc2 i))) 4;refine List.mem_map.2 ⟨m,List.mem_range.2 hm,funext fun b=>?_⟩;have:=hb (ix2 b) (zRK b);have h4:=zRK b;show m.testBit (3-ix2 b)=G (pfx a t b);rw[show 3-ix2 b=4-1-ix2 b by omega,<-this];refine hG _ _ fun i hi=>?_;unfold pfx;split
 ·rfl
 ·exact zUa b i hi
theorem stp2{n lim:Nat}{W:BFn->Prop}{e:Bool}{ns ns':Ns}(hn:n=2)(hs:Stp n lim W false ns e ns')(hl:16<lim):e=false:=by
 subst hn;cases e with
 |false=>rfl
 |true =>have h1:=hs.full rfl rfl;have h2:=zOA (ns0:=[]) hs.ext.wf cov2 fun z h1 h2=>⟨fun b=>eval ns' b z,zQH hs.ext.wf h2,IsC.refl _⟩;simp at h2;omega
def awO(ev:zP):No:=⟨ByteArray.empty,0,⟨.slice none 0 0,rfl⟩,[],ev,[⟨⟨.slice none 0 0,rfl⟩,[],0,1⟩]⟩
def awT(vv nv ov ev:zP):Nt:=⟨vv,nv,⟨.slice none 0 0,rfl⟩,ov,[2],[0],[],[awO ev]⟩
theorem awT_g{vv nv ov ev:zP}:NtG (awT vv nv ov ev):=by
 refine⟨by simp[awT],by simp[awT],by simp[awT],by simp[awT],fun i hi=>?_,⟨by simp[awT],by simp[awT]⟩,fun o ho=>?_⟩
 ·have:i=0:=by simp[awT] at hi;omega
  subst this;simp[awT]
 ·simp[awT] at ho;subst ho;refine⟨by simp[awO],by simp[awO],⟨by simp[awO,awT],by simp[awO]⟩,fun e he=>?_,fun e he=>?_⟩
  ·simp[awO] at he;subst he;exact⟨by simp,by simp⟩
  ·simp[awO] at he;subst he;simp[awT]
theorem zQc{vv nv ov ev:zP}:zAp (awT vv nv ov ev).raw=true:=by
 rfl
theorem aw_tm{ev:zP}:TmC [2] (awO ev):=by
 refine⟨fun v hv=>?_,by decide,⟨fun e he=>?_,fun e he=>?_,fun e he=>?_⟩,fun e he=>?_,⟨rfl,fun f hf=>by cases hf⟩,by simp[awO],by simp[awO,mnF]⟩
 ·have:v=0:=by simp at hv;omega
  subst this;decide
 all_goals
  simp[awO] at he;subst he;simp[vB]
theorem aw_ls{ev:zP}:(mnL (rgP [2] (awO ev) [(0,1)]) (rgP [2] (awO ev) [(0,1)]).length).length=1:=by
 rfl
def AwX(vv nv ov ev:zP)(B:Asr):Asr:=zC (zM ov.1 41 4 noE [awO ev]) (zC (zM ev.1 87 3 nfE [(⟨⟨.slice none 0 0,rfl⟩,[],0,1⟩:Nf)]) (zC (zM nv.1 3 1 nE [0]) (zC (zM vv.1 3 1 nE [2]) B)))
theorem AwX.lcl{vv nv ov ev:zP}{B:Asr}(hB:Lcl B):Lcl (AwX vv nv ov ev B):=Lcl.own.star (Lcl.own.star (Lcl.own.star (Lcl.own.star hB)))
theorem AwX.rd{vv nv ov ev:zP}{B:Asr}:Rds (AwX vv nv ov ev B) fun w'=>NtR w' (awT vv nv ov ev):=fun w' F' hs=>by
 have r1:Rds (AwX vv nv ov ev B) fun w'=>Vw w' vv.1 nE [2]:=Rds.star (Rds.star (Rds.star Rds.own));have r2:Rds (AwX vv nv ov ev B) fun w'=>Vw w' nv.1 nE [0]:=Rds.star (Rds.star Rds.own);have r3:Rds (AwX vv nv ov ev B) fun w'=>Vw w' ev.1 nfE [(⟨⟨.slice none 0 0,rfl⟩,[],0,1⟩:Nf)]:=Rds.star Rds.own;have r4:Rds (AwX vv nv ov ev B) fun w'=>Vw w' ov.1 noE [awO ev]:=Rds.own;have n0:Vw w' (.slice none 0 0) fcE []:=Vw.nil _ _;refine⟨r1 w' F' hs,r2 w' F' hs,n0,r4 w' F' hs,fun o ho=>?_⟩;have:o=awO ev:=by simpa[awT] using ho
 subst this;refine⟨n0,r3 w' F' hs,fun e he=>?_⟩;have:e=⟨⟨.slice none 0 0,rfl⟩,[],0,1⟩:=by simpa[awO] using he
 subst this;exact n0
theorem At.rds{w w1:World}{F:List Nat}{A:Asr}(h:At w F A w1){P:World->Prop}(hP:Rds A P):P w1:=by
 obtain⟨⟨F',h2,_⟩,_⟩:=h;exact hP _ _ h2
def AwR(vv nv ov ev:zP)(tb:Nat)(B:Asr)(w:World)(F:List Nat)(ρ:Env)(w':World):Prop :=
 ρ 1=.pointer (some ⟨tb,0,none⟩)/\At w F (zC (zL tb (ntO (awT vv nv ov ev))) (AwX vv nv ov ev B)) w'
def AwE(B:Asr)(w:World)(F:List Nat)(ρ:Env)(w':World):Prop:=∃tb vv nv ov ev,AwR vv nv ov ev tb B w F ρ w'
theorem zCx{w w1:World}{F:List Nat}{B:Asr}(hB:Lcl B)(h:At w F B w1):Calls Tryz.prog 28 [].toArray w1 fun en w'=>∃v,en=.returned v/\v=.bool true/\At w F B w':=by
 refine enter Tryz.func28 mixed low28 (Nat.le_of_ble_eq_true rfl) ?_;simp only[L28];refine za (fun ρ w'=>w'=w1) (by simp) ?_;rintro ρ w2 e2;rw[e2];clear e2;refine za (AwE B w F) ?_ ?_
 ·have e0:∀(w:World) (o:Obj),(w.alloc o).heap.size=w.heap.size+1:=fun w o=>by simp
  obtain⟨rb,JE⟩:∃rb,rb=w1.heap.size:=⟨_,rfl⟩;have a1:=h.lit (xs:=[2]) (enc:=nE) (E:=3) (sz:=1) (cs:=#[.int .i64 2]) (m:=1) hB (by simp[nE]) zi (by simp[maxLen]) rfl;have a2:=a1.lit (xs:=[0]) (enc:=nE) (E:=3) (sz:=1) (cs:=#[.int .i64 0]) (m:=1) (Lcl.own.star hB) (by simp[nE]) zi (by simp[maxLen]) rfl;have a3:=a2.lit (xs:=[(⟨⟨.slice none 0 0,rfl⟩,[],0,1⟩:Nf)]) (enc:=nfE) (E:=87) (sz:=3) (cs:=#[.slice none 0 0,.int .i64 0,.int .i64 1]) (m:=1) (Lcl.own.star (Lcl.own.star hB)) (by simp[nfE]) zA7 (by simp[maxLen]) rfl;simp only[e0,<-JE] at a1 a2 a3;obtain⟨vv,JF⟩:∃vv,vv=Value.slice (some ⟨rb,0,none⟩) 1 1:=⟨_,rfl⟩;obtain⟨nv,JK⟩:∃nv,nv=Value.slice (some ⟨rb+1,0,none⟩) 1 1:=⟨_,rfl⟩;obtain⟨ev,JN⟩:∃ev,ev=Value.slice (some ⟨rb+1+1,0,none⟩) 1 1:=⟨_,rfl⟩;obtain⟨ov,JH⟩:∃ov,ov=Value.slice (some ⟨rb+1+1+1,0,none⟩) 1 1:=⟨_,rfl⟩;have o1:zAn vv=true:=by rw[JF];rfl
  have o2:zAn nv=true:=by rw[JK];rfl
  have o5:zAn ev=true:=by rw[JN];rfl
  have o6:zAn ov=true:=by rw[JH];rfl
  rw[<-JF,<-JK,<-JN] at a3;have JP:Lcl (zC (zM ev 87 3 nfE [(⟨⟨.slice none 0 0,rfl⟩,[],0,1⟩:Nf)]) (zC (zM nv 3 1 nE [0]) (zC (zM vv 3 1 nE [2]) B))):=Lcl.own.star (Lcl.own.star (Lcl.own.star hB));have a4:=a3.lit (xs:=[awO ⟨ev,o5⟩]) (enc:=noE) (E:=41) (sz:=4) (cs:=#[.string ByteArray.empty,.int .i64 0,.slice none 0 0,ev]) (m:=1) JP (by simp[noE,awO]) zBv (by simp[maxLen]) rfl;simp only[e0,<-JE] at a4;rw[<-JH] at a4;have a5:=At.alloc (.cells #[.slice none 0 0,.slice none 0 0,.slice none 0 0,.slice none 0 0] 26 (0,0)) (Lcl.own.star JP) a4;simp only[e0,<-JE] at a5;simp[zW,<-JE];rw[<-JF,<-JK,<-JN,<-JH];refine a5.st (Lcl.own.star JP) (by simp) (by simp[o1,o2,o6]) fun w8 h8=>?_;simp;exact⟨rb+1+1+1+1,⟨vv,o1⟩,⟨nv,o2⟩,⟨ov,o6⟩,⟨ev,o5⟩,by simp,h8⟩
 rintro ρ w3 ⟨tb,vv,nv,ov,ev,g1,h3⟩;obtain⟨T0,JB⟩:∃T0,T0=awT vv nv ov ev:=⟨_,rfl⟩;have JU:NtG T0:=by rw[JB];exact awT_g
 have JC:zAp T0.raw=true:=by rw[JB];exact zQc
 have JT:TkL T0.raw:=JU.lens (by rw[JB];simp[awT,awO]);have JR:T0.ops[0]? = some (awO ev):=by rw[JB];rfl
 have JA:T0.vars=[2]:=by rw[JB];rfl
 obtain⟨X,hX⟩:∃X,X=zC (zL tb (ntO (awT vv nv ov ev))) (AwX vv nv ov ev B):=⟨_,rfl⟩;have JD:Lcl X:=by rw[hX];exact Lcl.obj.star (AwX.lcl hB)
 have rN:Rds X fun w'=>NtR w' T0:=by rw[hX,JB];exact Rds.star AwX.rd
 have rO:Rds X fun w'=>w'.heap[tb]? = some (ntO T0):=by rw[hX,JB];exact Rds.obj
 rw[<-hX] at h3;have Ja:w3.heap[tb]? = some (ntO T0):=At.rds h3 rO;have JL:zD [2]=1:=rfl;simp[g1,zU2 Ja];have tt:∀G:BFn,(fun _:BFn=>True) G:=fun _=>trivial;refine zG (zHT T0 1000 JD h3 rN JU JC JT (by omega) (by omega) (newW (W:=fun _=>True) fun G _=>trivial)) ?_;rintro _ w4 hn;rcases hn with⟨JO,_⟩|⟨_,e4,Jc,Jg,hn⟩
 ·rw[JA,JL] at JO;omega
 have Jk:=stp2 (by rw[JA,JL]) Jg (by omega);subst Jk;rcases hn with⟨h,_⟩|⟨_,s,m,T,q,hA,rfl,JV,h4⟩
 ·cases h
 have hv:T.vars=[2]:=by rw[hA.vars,JA]
 have JS:2*zD T.vars=2:=by rw[hv,JL]
 have k4:Kn T Jc (zB5 [(0,true)] q.all true) q.all (fun _=>true):=⟨zDR _ _ _,JV.all⟩;obtain⟨o,ho,op,oa,oe⟩:=hA.sk JR;simp;refine zG (zQh h4) ?_;rintro _ w5 ⟨rfl,h5⟩;simp;have Jo:(zB5 [((0:Nat),true)] q.all true).length<=1+1:=zAd;refine zG (zGA q.all 0 o (fun _=>true) JV JD h5 k4 ho (by omega) (by simp) (imgW (W:=fun _=>True) fun G _=>trivial)) ?_;rintro _ w6 ⟨x,e6,Jb,ss6,rfl,Jf,_,JI,Jm,_,h6⟩;have Jj:=stp2 JS Jf (by omega);subst Jj;have k6:Kn T Jb (ksR (zB5 [(0,true)] q.all true) x false) x (zIO T o fun _=>true):=⟨zDR _ _ _,JI rfl⟩;simp;refine zG (zGG x _ Jm JD h6 k6 (W:=fun _=>True) (litW fun G _=>trivial) (fun _ _=>trivial) trivial) ?_;rintro _ w7 ⟨e7,Jn,rfl,Je,Jl,h7⟩;have Ji:=stp2 JS Je (by omega);subst Ji;have hP:zIO T o (fun _=>true)=zIO T0 (awO ev) (fun _=>true):=zPy hA op oa _;have ev7:ctN T.vars (zIO T o fun _=>true)=1:=by rw[hP,hv,JB];rfl
 rw[zRW fun n hn=>(Jl.g.vars n hn).2,ev7,if_neg (by simp),SpG.six (by decide)];have JZ:=zI.frame h7 rO;have h8:=h7.lit (xs:=[((0,1):Go.Tk.Fc)]) (enc:=fcE) (E:=100) (sz:=2) (cs:=#[.int .i64 0,.int .i64 1]) (m:=1) (zI.lcl JD) (by simp[fcE]) zC1 (by simp[maxLen]) rfl;simp[g1,zU2 JZ,zW];obtain⟨w8,Jd⟩:∃w8,w8=w7.alloc (.cells #[.int .i64 0,.int .i64 1] 100):=⟨_,rfl⟩;rw[<-Jd] at h8 ⊢;have JY:NtR w8 T0:=zI.frame (h8.drop) rN;have tm:TmC T0.vars (awO ev):=by rw[JA];exact aw_tm
 refine zG (rv (zDv T0 JY JC JT 0 (awO ev) JR _ [(0,1)] h8.own.vw (by simp) (by rw[JA];rfl) (by rw[JA];simp) tm.es tm.pre (by rw[JA];simp) (by rw[JA];simp) (by simp[awO]) (by rw[JB];simp[awT]) (tm.preC (by simp) (by rw[JA];simp)))) ?_;rintro _ w9 ⟨r,rfl,ls,JG,h9⟩;obtain⟨rs,Jh,JX⟩:=LLA.opn (At.join (Lcl.own.star (zI.lcl JD)) h8 h9);have JM:rs.length=1:=by have e1:=congrArg List.length Jh;rw[List.length_map] at e1;rw[e1,JG.length_eq,JA];exact aw_ls
 simp[JX.own.len,JM,zQL];have JW:=JX.drop.drop.drop;unfold zI at JW;have JQ:=JW.drop.drop.drop.drop.drop.drop.drop;rw[hX] at JQ;unfold AwX at JQ;exact JQ.drop.drop.drop.drop.drop
end
section
open Go Go.W Go.Tk Go.Rx Go.Bd Go.Sy Go.Maps
def RelsZ(T:Nt)(G:BFn):Prop:=∃o∈T.ops,zIH T o G
def WR(T:Nt)(G:BFn):Prop:=W0Z T G\/RelsZ T G
def zMd(T:Nt)(l:List No):Nat:=(l.map fun o=>zLD (zD T.vars) (zLu T.vars o)).sum
theorem zWG{T:Nt}(hT:SmC T):zx (2*zD T.vars) (WR T) (n0Z (zD T.vars)+zMd T T.ops):=by
 have key:∀l:List No,(∀o∈l,o∈T.ops)->zAo (2*zD T.vars) (ShZ T.vars) (fun G=>(∃o∈l,zIH T o G)/\¬W0Z T G) (zMd T l):=by
  intro l
  induction l with
  |nil=>exact fun _=>(zAo.none _ _).mono (fun G ⟨⟨o,h,_⟩,_⟩=>by cases h) (Nat.zero_le _)
  |cons o l ih =>
   intro h;have ho:=h o (by simp);refine((zRt hT.vars (hT.ops o ho) (hT.el o ho)).or (ih fun x hx=>h x (by simp[hx]))).mono (fun G ⟨⟨x,hx,hr⟩,hn⟩=>?_) (Nat.le_refl _);rcases List.mem_cons.1 hx with rfl|hx
   ·exact .inl ⟨hr,hn⟩
   ·exact .inr ⟨⟨x,hx,hr⟩,hn⟩
 refine(zAo.join (zTV hT) zJT (key T.ops fun _ h=>h)).mono (fun G h=>?_) (Nat.le_refl _);by_cases h0:W0Z T G
 ·exact .inl h0
 ·exact h.elim .inl fun h=>.inr ⟨h,h0⟩
end
end Go.Proofs.YtolkjbmcindhjaaGreat
section
namespace Go.Proofs.YtolkjbmcindhjaaGreat
open Go Go.W Go.Tk Go.Rx Go.Bd Go.Sy Go.Maps
open Go.Rb (zt)
theorem zQA(vars:List Nat):(List.range vars.length).map (szV vars)=vars:=by
 apply List.ext_getElem (by simp);intro i h1 h2;simp[szV,List.getD,List.getElem?_eq_getElem h2]
theorem zHj:∀l,zt l=prL l
 |[]=>rfl
 |x::l=>by show x*zt l=x*prL l;rw[zHj l]
theorem zUd{T:Nt}{o:No}(hT:SmT T)(hM:TmT T)(ho:o∈T.ops):TmC T.vars o:=by
 have JA:=hT.g.ops o ho;refine⟨fun v hv=>?_,?_,⟨(hM.ops o ho).cnd,fun e he g hg=>((JA.cnd e he).rng g hg).1,fun e he=>zPR (JA.cnd e he).asc⟩,fun e he g hg=>((JA.cnd e he).rng g hg).2,⟨zPR JA.pre.asc,fun f hf=>(JA.pre.rng f hf).1⟩,hT.el o ho,(hM.ops o ho).many⟩
 ·have:szV T.vars v∈T.vars:=by unfold szV;rw[List.getD,List.getElem?_eq_getElem hv];exact List.getElem_mem _
  exact hM.vars _ this
 ·rw[zQA,zHj];have:=hT.pr T.vars.length;rwa[List.take_length] at this
theorem zWI{vars x:List Nat}{o:No}{p:List Go.Tk.Fc}{ls:List (List Go.Tk.Fc)}(hx:StN vars x)(hG:EsG vars.length o.effs)(JA:zBA vars.length o.pre)(hp:∀f∈p,f.1<vars.length)(hl:ls.Perm (mnL (rgP vars o p) (rgP vars o p).length)) :
  (ls.any fun z=>hdB x z)=zFc o (fun y=>hdB y p) x:=by
 have h1:SmH x ls<->hdB x o.pre=true/\hdB (apS o x) p=true:=by rw[zR9 hl,zUm fun z hz=>(zEp hG JA hp z hz).v,zR8 ⟨hx.len,hx.rng⟩ hG hp]
 unfold zFc;rw[Bool.eq_iff_iff,List.any_eq_true,Bool.and_eq_true,<-h1];rfl
def zOq(vars:List Nat)(l:List (List Go.Tk.Fc)):Prop:=∀z∈l,zHB vars z
theorem zVj{vars:List Nat}{a b:List (List Go.Tk.Fc)}(ha:zOq vars a)(hb:zOq vars b):zOq vars (jnL a b):=fun y hy f hf=>by
 obtain⟨x,hx,u,hu,e⟩:=zDi.1 hy;unfold jn at e;split at e
 ·rw[<-Option.some.inj e] at hf;rcases List.mem_append.1 ((zCz (x++u) f).1 hf) with h|h
  ·exact ha x hx f h
  ·exact hb u hu f h
 ·cases e
theorem sil_v{vars:List Nat}{l:List Go.Tk.Fc}(h:∀f∈l,f.1<vars.length):zOq vars (zBV vars l):=fun z hz f hf=>by
 unfold zBV zHD at hz;obtain⟨g,hg,hz⟩:=List.mem_flatMap.1 hz;obtain⟨y,hy,rfl⟩:=List.mem_map.1 hz;have hy:=List.mem_range.1 (List.mem_filter.1 hy).1;simp at hf;subst hf;exact⟨h g hg,hy⟩
theorem zTl{vars:List Nat}{x:Nat}:∀(es:List Nf) (l:List (List Go.Tk.Fc)),(∀e∈es,∀g∈e.cnd,g.1<vars.length)->zOq vars l->zOq vars (chL vars x l es)
 |[],l,_,h=>h
 |e::es,l,he,h=>by
  show zOq vars (chL vars x (if e.x=x then l else jnL l (zBV vars e.cnd)) es);refine zTl es _ (fun e' JA=>he e' (by simp[JA])) ?_;split
  ·exact h
  ·exact zVj h (sil_v (he e (by simp)))
theorem csL_v{vars:List Nat}{f:Go.Tk.Fc}{effs:List Nf}(hc:∀e∈effs,zHB vars e.cnd)(hf:f.1<vars.length/\f.2<vars.getD f.1 0):zOq vars (csL vars f effs):=fun z hz=>by
 have JA:∀e∈esF effs f.1,e∈effs:=fun e he=>(List.mem_filter.1 he).1;unfold csL at hz;obtain⟨t,_,hz⟩:=(zFH _).1 hz;unfold zEE at hz;split at hz
 ·split at hz
  ·rename_i e he;have JC:=JA e (List.mem_of_getElem? he);split at hz
   ·exact zTl _ _ (fun e' JB g hg=>(hc e' (JA e' (List.mem_of_mem_drop JB)) g hg).1) (fun z hz=>by simp at hz;subst hz;exact hc e JC) z hz
   ·cases hz
  ·cases hz
 ·exact zTl _ _ (fun e' JB g hg=>(hc e' (JA e' JB) g hg).1) (fun z hz=>by simp at hz;subst hz;intro g hg;simp at hg;subst hg;exact hf) z hz
theorem rgP_v{vars:List Nat}{o:No}(hc:∀e∈o.effs,zHB vars e.cnd)(JA:zHB vars o.pre){p:List Go.Tk.Fc}(hp:zHB vars p):zOq vars (rgP vars o p):=by
 have:∀(p:List Go.Tk.Fc) (l:List (List Go.Tk.Fc)),zHB vars p->zOq vars l->zOq vars (p.foldl (fun l f=>jnL l (csL vars f o.effs)) l):=by
  intro p
  induction p with
  |nil=>intro l _ h;exact h
  |cons f p ih=>intro l hf h;exact ih _ (fun g hg=>hf g (by simp[hg])) (zVj h (csL_v hc (hf f (by simp))))
 exact this p _ hp (fun z hz=>by simp at hz;subst hz;exact JA)
theorem zFF{vars:List Nat}{l:List Go.Tk.Fc}(h:zFt vars l):zAQ (vars.map iN) (l.map faN)=true:=by
 unfold zAQ;refine zA6 fun i hi=>?_;rw[List.length_map] at hi;have get:∀j (hj:j<l.length),(l.map faN).getD j (0,0)=faN l[j]:=fun j hj=>by simp[List.getD,hj]
 have hr:=h.rng l[i] (List.getElem_mem _);unfold zMo;rw[get i hi];simp only[Bool.and_eq_true,Bool.or_eq_true,decide_eq_true_eq];constructor
 ·unfold inR faN;have e:(vars.map iN).getD l[i].1 0=(vars.getD l[i].1 0:Int):=zP1;simp only[Bool.and_eq_true,decide_eq_true_eq,List.length_map,Int.toNat_natCast];rw[e];omega
 ·by_cases h0:i=0
  ·exact .inl h0
  ·refine .inr ?_;rw[get (i-1) (by omega)];have:=List.pairwise_iff_getElem.1 h.asc (i-1) i (by omega) hi (by omega);unfold faN;simp only;omega
theorem ls_fc{vars:List Nat}{o:No}{p:List Go.Tk.Fc}{ls:List (List Go.Tk.Fc)}(ho:NoG vars o)(hG:EsG vars.length o.effs)(JA:zBA vars.length o.pre)(hp:zFt vars p)(hl:ls.Perm (mnL (rgP vars o p) (rgP vars o p).length)):∀z∈ls,zFt vars z:=fun z hz=>by
 have h1:=zIl _ (Nat.le_refl _) z (hl.mem_iff.1 hz);exact⟨rgP_v (fun e he=>(ho.cnd e he).rng) ho.pre.rng hp.rng z h1,zHJ (zEp hG JA (fun f hf=>(hp.rng f hf).1) z h1).v⟩
theorem zPP{w:World}(T:Nt)(hr:NtR w T)(hT:SmT T)(hM:TmT T)(hl:TkL T.raw)(i:Nat)(o:No)(ho:T.ops[i]? = some o)(pv:Value)(p:List Go.Tk.Fc)(hp:Vw w pv fcE p)(JA:zFt T.vars p) :
  Calls Tryz.prog 34 [ntV T,.int .i64 (i:Nat),pv].toArray w fun e w'=>∃v,e=.returned v/\∃r ls,v=.tuple #[r,.nilIface]/\(∀x,StN T.vars x->(ls.any fun z=>hdB x z)=zFc o (fun y=>hdB y p) x)/\(∀z∈ls,zFt T.vars z)/\ls.length<=1024/\At w [] (zC (LLA r 23 fcE ls) Emp) w':=by
 have JC:=List.mem_of_getElem? ho;have tm:=zUd hT hM JC;have JF:=JA.len;have JE:=hT.vl;have JD:=tm.preC (p:=p) (List.pairwise_map.2 (JA.asc.imp fun {a b} h e=>by omega)) fun f hf=>(JA.rng f hf).1;refine(zDv T hr hT.good hl i o ho pv p hp (by omega) (zFF JA) (fun f hf=>(JA.rng f hf).1) tm.es tm.pre JE (fun n hn=>(hT.g.vars n hn).2) (by have:=hT.el o JC;omega) (by have:=hT.ol;omega) JD).mono ?_;rintro e w' ⟨r,rfl,ls,JB,h⟩;refine⟨_,rfl,r,ls,rfl,fun x hx=>zWI hx tm.es tm.pre (fun f hf=>(JA.rng f hf).1) JB,ls_fc (hT.g.ops o JC) tm.es tm.pre JA JB,?_,h⟩;have h1:=zIm (rgP T.vars o p) (rgP T.vars o p).length;have h2:=JD.pr p.length;rw[List.take_length] at h2;have h3:=JB.length_eq;omega
theorem zMz{v:Value}(h:zAn v=true):v.cells=#[v]:=by
 cases v<;>first|rfl|simp_all [zAn]
theorem zMi{α:Type}{enc:α->List Value}{ps:List (zP×List α)}{B:Asr}{p:zP×List α}(hp:p∈ps):Rds (zC (zZ enc ps) B) fun w'=>Vw w' p.1.1 enc p.2:=fun w' F' hs=>by
 obtain⟨Fa,Fb,ha,_⟩:=hs;exact ha.1 p hp
def opR(b:Nat):Nat:=(prC b+(12*(3*b)+2^(b-3))*8)+(2^(b-3)*8+(3*2^b+(imC b+2^(b-3))))
def stR(b:Nat):Nat:=(12*(3*b)+2^(b-3))+12*(3*b)
def zVT(b:Nat):Nat:=n0Z b+4*max (zLD b false) (zLD b true)
theorem zMf:∀b,b<12->zVT b+(stR b+4*opR b)<1048576:=by decide +kernel
theorem zMc(T:Nt):∀l:List No,zMd T l<=l.length*max (zLD (zD T.vars) false) (zLD (zD T.vars) true)
 |[]=>by simp[zMd]
 |o::l=>by
  have ih:=zMc T l;have h1:zLD (zD T.vars) (zLu T.vars o)<=max (zLD (zD T.vars) false) (zLD (zD T.vars) true):=by
   cases zLu T.vars o
   ·exact Nat.le_max_left _ _
   ·exact Nat.le_max_right _ _
  unfold zMd at ih ⊢;rw[List.map_cons,List.sum_cons,List.length_cons,Nat.add_mul,Nat.one_mul];omega
theorem zJB{T:Nt}(hT:SmC T)(h4:T.ops.length<=4):zx (2*zD T.vars) (WR T) (zVT (zD T.vars)) :=
 (zWG hT).mono (fun _ h=>h) (by have h1:=zMc T T.ops;have h2:=Nat.mul_le_mul_right (max (zLD (zD T.vars) false) (zLD (zD T.vars) true)) h4;unfold zVT;omega)
theorem lrW{T:Nt}(hT:SmC T)(h4:T.ops.length<=4):LrC T (WR T) (zVT (zD T.vars)) :=
 ⟨fun G h=>.inl (zJT G (.inl h)),fun G h=>.inl (.inl h),zJB hT h4⟩
theorem zQk{T:Nt}{o:No}(ho:o∈T.ops):∀G,zIH T o G->WR T G:=fun G h=>.inr ⟨o,ho,h⟩
theorem zOe{T T':Nt}(h:T'.vars=T.vars):zT5 T'=zT5 T:=by
 unfold zT5 NewS;rw[h]
section
variable {w w1:World} {F:List Nat} {B:Asr} {s m lim N N0 c:Nat} {T:Nt} {q:SpC} {W0 W:BFn->Prop} {ps:List Kp2}
theorem zNG(sv:Value)(st:List Nat)(hC:LrC T W0 N0)(hB:Lcl B)(h:Lr s m lim T q W0 B w F N c ps w1)(hr:Rds B fun w'=>Vw w' sv nE st)(JA:StN T.vars st)(JB:T.vars.length<=12)(hl:N0+(N+12*(3*zD T.vars))<lim)(hc:c<100000) :
  Calls Tryz.prog 33 [.pointer (some ⟨s,0,none⟩),sv].toArray w1 fun en w'=>∃v,en=.returned v/\∃x:Nat,v=.tuple #[.int .i64 (x:Nat),.nilIface]/\Lr s m lim T q W0 B w F (N+12*(3*zD T.vars)) (c+1) ((x,fun z=>decide (z=st))::ps) w':=by
 obtain⟨ns,ks,ss,JD,hG,hk,JE,JC,hA⟩:=h;refine(zIZ sv st hG hB hA hr JA (by omega) (W:=fun G=>W0 G\/∃j,j<(sF st st.length).length/\G=fcB T.vars (sF st st.length) j) hC.lit (hC.fc (zMV JA) fun j hj=>⟨j,hj,rfl⟩)).mono ?_;rintro en w' ⟨v,rfl,hs⟩;refine⟨v,rfl,zDg hC JD hG hk JE JC hs ?_ hl⟩;exact(zAo.eachW (fun j G=>G=fcB T.vars (sF st st.length) j) _ fun j _=>(zVA (fun f hf=>(zMV JA f hf).1) j).cov.toR).mono (fun _ h=>h) (Nat.mul_le_mul_right _ (by rw[zMW,JA.len];exact JB))
theorem zVZ(a:Nat)(sv:Value)(st:List Nat)(P:List Nat->Bool)(hB:Lcl B)(h:Lr s m lim T q W0 B w F N c ps w1)(ha:(a,P)∈ps)(hr:Rds B fun w'=>Vw w' sv nE st)(JA:StN T.vars st) :
  Calls Tryz.prog 42 [.pointer (some ⟨s,0,none⟩),.int .i64 (a:Nat),sv].toArray w1 fun en w'=>∃v,en=.returned v/\v=.tuple #[.bool (P st),.nilIface]/\Lr s m lim T q W0 B w F N c ps w':=by
 obtain⟨ns,ks,ss,JC,hG,hk,JD,JB,hA⟩:=h;refine(zP4 a sv st P hG hB hA (hk _ ha) hr JA).mono ?_;rintro en w' ⟨v,rfl,rfl,h4⟩;exact⟨_,rfl,rfl,ns,ks,ss,JC,hG,hk,JD,JB,h4⟩
theorem Lr.zero(h:Lr s m lim T q W0 B w F N c ps w1){x:Nat}{P:List Nat->Bool}(hx:(x,P)∈ps):x=0<->∀z,StN T.vars z->P z=false:=by
 obtain⟨ns,ks,ss,JC,hG,hk,JD,JB,hA⟩:=h;have h1:=(hk _ hx).ok;constructor
 ·intro e z hz;have JA:rs T.vars (mk2 T.vars z []) 0=z:=zHY (y:=[]) (fun n hn=>(hG.g.vars n hn).2) hz;have h2:=h1.2 (mk2 T.vars z []);rw[show((x,P):Kp2).1=0 from e,zN,JA,zAh.2 (by rw[JA];exact hz)] at h2;simpa using h2.symm
 ·intro e;refine zTn hG.ok.wf h1.1 (by unfold Ref;omega) fun a=>?_;rw[h1.2,zN];cases ho:okB T.vars a with
  |false=>rfl
  |true=>exact e _ (zAh.1 ho)
theorem Lr.atk(h:Lr s m lim T q W0 B w F N c ps w1){C:Asr}{w2:World}(hk:∀ns ks ss,At w F (zI s m lim T q ns ks ss B) w1->At w F (zI s m lim T q ns ks ss C) w2):Lr s m lim T q W0 C w F N c ps w2:=by
 obtain⟨ns,ks,ss,JB,hG,JD,JC,JA,hA⟩:=h;exact⟨ns,ks,ss,JB,hG,JD,JC,JA,hk _ _ _ hA⟩
theorem Lr.join(hB:Lcl B)(h:Lr s m lim T q W0 B w F N c ps w1){A:Asr}{w2:World}(h2:At w1 [] (zC A Emp) w2):Lr s m lim T q W0 (zC A B) w F N c ps w2 :=
 h.atk fun ns ks ss hA=>zI.into (At.join (zI.lcl hB) hA h2)
theorem spIn{A:Asr}{ns:Ns}{ks:List (Nat×Bool)}{ss:List (Nat×Nat)}:Imp (zC A (zI s m lim T q ns ks ss B)) (zI s m lim T q ns ks ss (zC A B)):=by
 unfold zI;exact Imp.bk8
theorem Lr.opn{α:Type}{enc:α->List Value}{v:Value}{E:Nat}{ls:List (List α)}(h:Lr s m lim T q W0 (zC (LLA v E enc ls) B) w F N c ps w1):∃rs:List (zP×List α),rs.map (·.2)=ls/\Lr s m lim T q W0 (zC (zM v E 1 sv1 rs) (zC (zZ enc rs) B)) w F N c ps w1:=by
 obtain⟨ns,ks,ss,JC,hG,JE,JD,JA,hA⟩:=h;obtain⟨rs,JB,h1⟩:=LLA.opn (zI.out hA);exact⟨rs,JB,ns,ks,ss,JC,hG,JE,JD,JA,zI.into (h1.by (Imp.un spIn))⟩
theorem Lr.nw{α:Type}{enc:α->List Value}{u:Value}{E sz:Nat}{l:List α}{w2:World}(hB:Lcl B)(h:Lr s m lim T q W0 B w F N c ps w1)(t:Nw w1 w2 u E sz enc l):Lr s m lim T q W0 (zC (zM u E sz enc l) B) w F N c ps w2 :=
 h.atk fun ns ks ss hA=>zI.into (At.nw (zI.lcl hB) hA t)
theorem zVY(T:Nt)(hB:Lcl B)(h:At w F B w1)(hr:Rds B fun w'=>NtR w' T)(hT:SmT T)(hl:TkL T.raw)(h4:T.ops.length<=4) :
  Calls Tryz.prog 31 [ntV T,.int .i64 1048576].toArray w1 fun en w'=>∃v,en=.returned v/\∃s m T' q,v=.tuple #[.pointer (some ⟨s,0,none⟩),.nilIface]/\Alk T T'/\SmC T'/\T'.ops.length<=4/\NtG T'/\Lr s m 1048576 T' q (WR T') B w F 0 2 [(0,fun _=>false)] w':=by
 have JG:Alk T T:=⟨rfl,rfl,rfl,rfl⟩;have JF:=smc hT JG;have hb:=(zUp hT).1;have JB:=zMf (zD T.vars) (by omega);refine(zHT T 1048576 hB h hr hT.g hT.good hl (by omega) (by omega) (newW (W:=zT5 T) fun G h=>.inl h)).mono ?_;rintro en w' ⟨v,rfl,hn⟩;rcases hn with⟨JE,_⟩|⟨_,e,ns,hs,hn⟩
 ·omega
 have JD:=zJB JF h4;have JC:e=false:=(zOw.start (S:=ShS (zD T.vars)) JD (fun G h=>.inl (zJT G (.inl h))) (hs.mono fun G h=>.inl (.inl h)) (by omega)).1;subst JC;rcases hn with⟨h,_⟩|⟨_,s,m,T',q,hA,rfl,hG,h5⟩
 ·cases h
 have hK:=smc hT hA;have JA:T'.ops.length<=4:=by have:=congrArg List.length hA.ops;rw[List.length_map,List.length_map] at this;omega
 refine⟨_,rfl,s,m,T',q,rfl,hA,hK,JA,hG.g,ns,_,[],?_,hG,fun p hp=>?_,zAd,by simp,h5⟩
 ·refine(zOw.start (e:=false) (zJB hK JA) (fun G h=>.inl (zJT G (.inl h))) ?_ (by rw[hA.vars];omega)).2;rw[hA.vars];refine hs.mono fun G hG=>.inl (.inl ?_);rw[zOe hA.vars];exact hG
 ·simp at hp;subst hp;refine⟨?_,by unfold Ref;omega,fun a=>by simp[zN]⟩;by_cases h0:q.all=0
  ·rw[h0];exact zDR _ _ _
  ·rw[zE9 h0];rfl
end
end Go.Proofs.YtolkjbmcindhjaaGreat
end
namespace Go.Proofs.YtolkjbmcindhjaaGreat
section
open Go Go.W Go.Tk Go.Rx Go.Bd Go.Sy Go.Maps
theorem rg_st{vars:List Nat}{s:List Int}(h:zAC (vars.map iN) s=true):∃s',s=s'.map iN/\StN vars s':=by
 unfold zAC at h;rw[Bool.and_eq_true,decide_eq_true_eq] at h;obtain⟨hl,ha⟩:=h;have hl:s.length=vars.length:=by simpa using hl
 have hr:∀v,v<s.length->0<=s.getD v 0/\s.getD v 0<((vars.getD v 0:Nat):Int):=fun v hv=>by have:=zJM ha hv;unfold zOr at this;rw[zP1] at this;simpa using this
 refine⟨s.map Int.toNat,?_,by rw[List.length_map];exact hl,fun v hv=>?_⟩
 ·rw[List.map_map];apply List.ext_getElem (by simp);intro i h1 h2;have:=hr i h1;simp only[List.getD,List.getElem?_eq_getElem h1,Option.getD_some] at this;simp[iN];omega
 ·have:=hr v (by omega);simp only[List.getD,List.getElem?_map] at this ⊢;rw[List.getElem?_eq_getElem (by omega)] at this ⊢;simp only[Option.map_some,Option.getD_some] at this ⊢;omega
def PsW(goal one:Nat)(p:List Go.Tk.Fc)(st:List Nat):List Kp2:=[(one,fun z=>decide (z=st)),(goal,fun z=>hdB z p),(0,fun _=>false)]
theorem zSZ{goal one:Nat}{p:List Go.Tk.Fc}{st:List Nat}:((one,fun z=>decide (z=st)):Kp2)∈PsW goal one p st:=List.mem_cons_self ..
theorem zJy{goal one:Nat}{p:List Go.Tk.Fc}{st:List Nat}:((goal,fun z=>hdB z p):Kp2)∈PsW goal one p st:=List.mem_cons_of_mem _ (List.mem_cons_self ..)
theorem zPS{goal one:Nat}{p:List Go.Tk.Fc}{st:List Nat}:((0,fun _=>false):Kp2)∈PsW goal one p st:=List.mem_cons_of_mem _ (List.mem_cons_of_mem _ (List.mem_cons_self ..))
theorem zVV(p:List Go.Tk.Fc):(mnL [p] 1).length=1:=rfl
theorem zFx{P:Program}{a b c:LCode}{Q:Ex->Env->World->Prop}{ρ:Env}{w:World}(h:wpL P (.seq (.seq a b) c) Q ρ w):wpL P (.seq a (.seq b c)) Q ρ w:=by
 simp only[zL2] at h ⊢;refine zBD a (fun e ρ w hk=>?_) h;cases e<;>simp only[zCu] at hk ⊢<;>exact hk
structure RgO(pv sv:Value)(tb s goal one n i:Nat)(r:Value)(pre:Nat)(ρ:Env):Prop where
 g1:ρ 1=pv
 g2:ρ 2=sv
 g3:ρ 3=.pointer (some ⟨tb,0,none⟩)
 g7:ρ 7=.pointer (some ⟨s,0,none⟩)
 g9:ρ 9=.int .i64 (goal:Nat)
 g10:ρ 10=.int .i64 (one:Nat)
 g11:ρ 11=.int .i64 (i:Nat)
 g12:ρ 12=r
 g14:ρ 14=.int .i64 (pre:Nat)
 g85:ρ 85=.int .i64 (n:Nat)
 g86:ρ 86=.int .i64 (i:Nat)
theorem RgO.set{pv sv:Value}{tb s goal one n i:Nat}{r:Value}{pre:Nat}{ρ:Env}{k:Nat}{v:Value}(hk:([1,2,3,7,9,10,11,12,14,85,86]:List Nat).all (fun j=>decide (j≠k))=true)(h:RgO pv sv tb s goal one n i r pre ρ):RgO pv sv tb s goal one n i r pre (ρ.set k v):=by
 simp only[List.all_cons,List.all_nil,Bool.and_eq_true,decide_eq_true_eq] at hk;obtain⟨h1,h2,h3,h7,h9,JF,JE,JD,JC,JB,JA,_⟩:=hk;have e:∀j,j≠k->(ρ.set k v) j=ρ j:=fun j hj=>by simp[Env.set,hj]
 exact⟨by rw[e 1 h1];exact h.g1,by rw[e 2 h2];exact h.g2,by rw[e 3 h3];exact h.g3,by rw[e 7 h7];exact h.g7,by rw[e 9 h9];exact h.g9,by rw[e 10 JF];exact h.g10,by rw[e 11 JE];exact h.g11,by rw[e 12 JD];exact h.g12,by rw[e 14 JC];exact h.g14,by rw[e 85 JB];exact h.g85,by rw[e 86 JA];exact h.g86⟩
def SuA(T:Nt)(o:No)(x:List Nat)(Y:Asr)(nx:Value)(L:Asr->Prop):Prop:=∃A:Asr,Lcl A/\(hdB x o.pre=true->Rds (zC A Y) fun w'=>Vw w' nx nE (apS o x))/\L (zC A Y)
def OpK(pv sv:Value)(tb s m goal one i:Nat)(T T':Nt)(q:SpC)(p:List Go.Tk.Fc)(st:List Nat)(o o':No)(B:Asr)(w:World)(F:List Nat)(N C:Nat)(ρ:Env)(w':World):Prop :=
 ∃(r:Value) (ls:List (List Go.Tk.Fc)) (rs:List (zP×List Go.Tk.Fc)) (pre:Nat),RgO pv sv tb s goal one T.ops.length i r pre ρ/\(∀x,StN T.vars x->(ls.any fun z=>hdB x z)=zFc o (fun y=>hdB y p) x)/\(∀z∈ls,zFt T.vars z)/\ls.length<=1024/\rs.map (·.2)=ls /\
  Lr s m 1048576 T' q (WR T') (zC (zM r 23 1 sv1 rs) (zC (zZ fcE rs) B)) w F N C ((pre,zFc o' fun z=>hdB z p)::PsW goal one p st) w'
def OpI(pv sv:Value)(tb s m goal one:Nat)(T T':Nt)(q:SpC)(p:List Go.Tk.Fc)(st:List Nat)(B:Asr)(w:World)(F:List Nat)(i:Nat)(ρ:Env)(w':World):Prop :=
 ρ 1=pv/\ρ 2=sv/\ρ 3=.pointer (some ⟨tb,0,none⟩)/\ρ 7=.pointer (some ⟨s,0,none⟩)/\ρ 9=.int .i64 (goal:Nat)/\ρ 10=.int .i64 (one:Nat) /\
  Lr s m 1048576 T' q (WR T') B w F (stR (zD T'.vars)+i*opR (zD T'.vars)) (4+i*20) (PsW goal one p st) w'
theorem zSw{w:World}(t:Tk)(pv sv:Value)(pl:List Fa)(sl:List Int)(ht:TkR w t)(hl:TkL t)(hp:Vw w pv faE pl)(Kt:pl.length<=9223372036854775807)(hs:Vw w sv iE sl)(Ko:sl.length<=9223372036854775807) :
  Calls Tryz.prog 5 [tkV t,pv,sv].toArray w fun e w'=>∃x,e=.returned x/\x=.bool true/\Kp [] w w':=by
 refine enter Tryz.func5 mixed low5 (Nat.le_of_ble_eq_true rfl) ?_;simp only[L5];obtain⟨tb,KT⟩:∃tb,tb=w.heap.size:=⟨_,rfl⟩;obtain⟨w1,KS⟩:∃w1,w1=w.alloc (tkO t):=⟨_,rfl⟩;obtain⟨R,hR⟩:∃R,R=List.range w.heap.size:=⟨_,rfl⟩;have J0:w.alloc (.cells #[t.vv.1,t.nv.1,t.gv.1,t.ov.1] 26 (0,0))=w1:=by rw[KS];rfl
 obtain⟨B,hB⟩:∃B,B=zC (zL tb (tkO t)) (zKp w):=⟨_,rfl⟩;have JH:Lcl B:=by rw[hB];exact Lcl.obj.star zKp.lcl
 have h1:At w R B w1:=by rw[hB,KT,KS,hR];exact At.alloc _ zKp.lcl (zKp.start w)
 have rO:Rds B fun w'=>w'.heap[tb]? = some (tkO t):=by rw[hB];exact Rds.obj
 have rK:Rds B fun w'=>Kp [] w w':=by rw[hB];exact Rds.star (zKp.rds fun w' k=>k)
 have at0:∀{w'},At w R B w'->w'.heap[tb]? = some (tkO t)/\Kp [] w w':=fun h=>by obtain⟨⟨F',h2,_⟩,_⟩:=h;exact⟨rO _ _ h2,rK _ _ h2⟩
 have Kg:=(at0 h1).1;simp[tkV,<-KT,J0,zEk Kg];have Kl:Calls Tryz.prog 6 [tkV t].toArray w1 fun e w'=>∃v,e=.returned v/\∃b,v=.bool b/\(b=true->∃T,T.raw=t/\SmT T/\TmT T)/\Kp [] w1 w':=(zMB t (ht.kp (at0 h1).2) hl).mono (by rintro e w' ⟨b,rfl,h1,h2⟩;exact⟨_,rfl,b,rfl,h1,h2⟩);refine zG Kl ?_;rintro _ w2 ⟨b,rfl,Kz,k2⟩;have h2:=h1.kp0 JH k2;cases b with
 |false =>simp;refine zG (zCx JH h2) ?_;rintro _ w3 ⟨rfl,h3⟩;simp;exact(at0 h3).2
 |true =>
  obtain⟨T,rfl,hT,hM⟩:=Kz rfl;have hr:=NtR.raw.1 ht;have Jx:=(at0 h2).1;unfold tkO at Jx;have KM:=(hr.kp (at0 h2).2).ops;have rN:Rds B fun w'=>NtR w' T:=by rw[hB];exact Rds.star (zKp.rds fun w' k=>hr.kp k)
  by_cases h4:(4:Int)<T.ops.length
  ·have KL:4<T.ops.length:=by omega
   simp[zA Jx,zF2,KM.len,h4,KL];refine zG (zCx JH h2) ?_;rintro _ w3 ⟨rfl,h3⟩;simp;exact(at0 h3).2
  have KL:¬4<T.ops.length:=by omega
  simp[zA Jx,zF2,KM.len,h4,KL];refine zG (zCx JH h2) ?_;rintro _ w3 ⟨rfl,h3⟩;have KP:=(at0 h3).1;unfold tkO at KP;simp[zA KP,zF1];refine zG (zBL T.vv.1 pv (T.vars.map iN) pl (zKu.2 (hr.kp (at0 h3).2).vars) (hp.kp0 (at0 h3).2) Kt) ?_;rintro _ w4 ⟨rfl,k4⟩;have Jg:=h3.kp0 JH k4;have KO:=(at0 Jg).1;unfold tkO at KO;cases J3:zAQ (T.vars.map iN) pl with
  |false =>simp;exact(at0 Jg).2
  |true =>
  simp[zA KO,zF1];refine zG (zBT T.vv.1 sv (T.vars.map iN) sl (zKu.2 (hr.kp (at0 Jg).2).vars) (hs.kp0 (at0 Jg).2) Ko) ?_;rintro _ w5 ⟨rfl,k5⟩;have h5:=Jg.kp0 JH k5;cases Kq:zAC (T.vars.map iN) sl with
  |false =>simp;exact(at0 h5).2
  |true =>
  obtain⟨p,rfl,JY⟩:=zDH rfl J3;obtain⟨st,rfl,Km⟩:=rg_st Kq;have KZ:=zGM.1 hp;have Kr:=zKu.1 hs;have rp:Rds B fun w'=>Vw w' pv fcE p:=by rw[hB];exact Rds.star (zKp.rds fun w' k=>KZ.kp0 k)
  have rs0:Rds B fun w'=>Vw w' sv nE st:=by rw[hB];exact Rds.star (zKp.rds fun w' k=>Kr.kp0 k)
  have J1:=hT.vl;simp[zEk (at0 h5).1,zF1,zMj,zMk,zF2];refine zG (zVY T JH h5 rN hT hl (by omega)) ?_;rintro _ w6 ⟨s,m,T',q,rfl,hA,hK,K0,hG,L6⟩;have hb:=hK.bs.1;have hC:=lrW hK K0;have JT:zFt T'.vars p:=by rw[hA.vars];exact JY
  have JM:StN T'.vars st:=by rw[hA.vars];exact Km
  have J5:=zMf (zD T'.vars) (by omega);obtain⟨NS,Jq⟩:∃N,N=stR (zD T'.vars):=⟨_,rfl⟩;obtain⟨NO,Jr⟩:∃N,N=opR (zD T'.vars):=⟨_,rfl⟩;obtain⟨N0,JN⟩:∃N,N=zVT (zD T'.vars):=⟨_,rfl⟩;obtain⟨U,hU⟩:∃N,N=2^(zD T'.vars-3):=⟨_,rfl⟩;obtain⟨A,JX⟩:∃N,N=12*(3*zD T'.vars):=⟨_,rfl⟩;have eNS:NS=(A+U)+A:=by rw[Jq,JX,hU];rfl
  simp;refine zG (zF7 pv p hC JH L6 rp (zFF JT) JT (zOB JT (V:=12) (by rw[hA.vars];exact J1)) (by rw[<-JN,<-hU,<-JX];omega) (by omega)) ?_;rintro _ w7 ⟨goal,rfl,L7⟩;simp;refine zG (zNG sv st hC JH L7 rs0 JM (by rw[hA.vars];exact J1) (by rw[<-JN,<-hU,<-JX];omega) (by omega)) ?_;rintro _ w8 ⟨one,rfl,L8⟩;have KN:=L8.frame rO;unfold tkO at KN;have Kf:=(L8.frame rN).ops;have L8':Lr s m 1048576 T' q (WR T') B w R (stR (zD T'.vars)+0*opR (zD T'.vars)) (4+0*20) (PsW goal one p st) w8:=L8.mono (by rw[<-Jq,<-hU,<-JX];omega) (by omega) (fun x hx=>by unfold PsW at hx;exact hx);simp[zA KN,zF2,Kf.len];refine zF (n:=T.ops.length) (by omega) (OpI pv sv tb s m goal one T T' q p st B w R) (by simp) (by simp)
   ⟨by simp,by simp,by simp,by simp,by simp,by simp,L8'⟩ (by decide) (fun _ _ _ _ h=>by unfold OpI at h ⊢;simpa using h) (fun _ _ _ _ h=>by unfold OpI at h ⊢;simpa using h) ?_ ?_
  rotate_left
  ·rintro ρ w9 ⟨g1,g2,g3,g7,g9,g10,L9⟩;have po:=KZ.o1;have L10:=L9.lit (xs:=[((⟨pv,po⟩,p):zP×List Go.Tk.Fc)]) (enc:=sv1) (E:=23) (sz:=1) (cs:=#[pv]) (k:=1) JH (by simp[sv1]) zT (by simp[maxLen]) rfl;simp[g1,zW,zMz po];have KH:Lcl (zC (zM (.slice (some ⟨w9.heap.size,0,none⟩) 1 1) 23 1 sv1 [((⟨pv,po⟩,p):zP×List Go.Tk.Fc)]) B):=Lcl.own.star JH;refine zG (zDy _ [((⟨pv,po⟩,p):zP×List Go.Tk.Fc)] ⟨L10.frame Rds.own,fun z hz=>?_,fun z hz=>?_⟩ (by simp) fun z hz=>?_) ?_
   ·simp at hz;subst hz;exact L10.frame (Rds.star rp)
   ·simp at hz;subst hz;have:=JY.len;simp;omega
   ·simp at hz;subst hz;exact zPR JY.asc
   rintro u Jw QB;have L11:=L10.join KH QB;obtain⟨rs,JS,L12⟩:=L11.opn;have e1:=congrArg List.length JS;simp only[List.length_map,List.map_cons,List.map_nil,List.length_cons,List.length_nil] at e1;rw[zVV] at e1;have ln:Vw Jw u sv1 rs:=L12.frame Rds.own;simp[ln.len,e1];exact L12.frame (Rds.star (Rds.star (Rds.star rK)))
  rintro i ρ w9 hi KC J6 ⟨g1,g2,g3,g7,g9,g10,L9⟩;obtain⟨NI,KF⟩:∃N,N=stR (zD T'.vars)+i*opR (zD T'.vars):=⟨_,rfl⟩;obtain⟨C,K9⟩:∃C,C=4+i*20:=⟨_,rfl⟩;obtain⟨P,hP⟩:∃N,N=prC (zD T'.vars):=⟨_,rfl⟩;obtain⟨C3,KJ⟩:∃N,N=3*2^zD T'.vars:=⟨_,rfl⟩;obtain⟨IM,KI⟩:∃N,N=imC (zD T'.vars):=⟨_,rfl⟩;have eNO:NO=(P+(A+U)*8)+(U*8+(C3+(IM+U))):=by rw[Jr,hP,JX,hU,KJ,KI];rfl
  have K6:(i+1)*NO<=4*NO:=Nat.mul_le_mul_right _ (by omega);rw[Nat.add_mul,Nat.one_mul] at K6;have QG:N0+(NI+NO)<1048576:=by rw[KF,<-Jq,<-Jr];rw[<-JN,<-Jq,<-Jr] at J5;omega
  have QH:C<=84:=by omega
  rw[<-KF,<-K9] at L9;obtain⟨o,ho⟩:∃o,T.ops[i]? = some o:=⟨_,List.getElem?_eq_getElem hi⟩;obtain⟨o',J4,epre,eap,eel⟩:=hA.sk ho;have JU:=List.mem_of_getElem? J4;refine zFx (zFx (zFx (za (OpK pv sv tb s m goal one i T T' q p st o o' B w R (NI+P) (C+1)) ?_ ?_)))
  ·have rt9:=zEk (L9.frame rO);simp[g1,g3,KC,J6,rt9,zF1,zMj,zMk,zF2];refine zG (zPP T (L9.frame rN) hT hM hl i o ho pv p (L9.frame rp) JY) ?_;rintro _ QE ⟨r,ls,rfl,JV,Jo,Ka,QC⟩;obtain⟨rs,JS,L10⟩:=(L9.join JH QC).opn;have JL:Lcl (zC (zM r 23 1 sv1 rs) (zC (zZ fcE rs) B)):=Lcl.own.star (Lcl.vws.star JH);simp[g7,g9];refine zG (zIp goal i o' (fun z=>hdB z p) hC (zQk JU) JL L10 zJy J4 (by rw[<-JN,<-hP];omega) (by omega)) ?_;rintro _ Jw ⟨pre,rfl,L11⟩;rw[<-hP] at L11;simp;exact⟨r,ls,rs,pre,⟨by simp[g1],by simp[g2],by simp[g3],by simp[g7],by simp[g9],by simp[g10],by simp,by simp,by simp,by simp[J6],by simp[KC]⟩,JV,Jo,Ka,JS,L11⟩
  clear g1 g2 g3 g7 g9 g10 KC J6 L9;rintro ρ Jw ⟨r,ls,rs,pre,G11,JV,Jo,Ka,JS,L11⟩;obtain⟨X,hX⟩:∃X,X=zC (zM r 23 1 sv1 rs) (zC (zZ fcE rs) B):=⟨_,rfl⟩;have JL:Lcl X:=by rw[hX];exact Lcl.own.star (Lcl.vws.star JH)
  have rr:Rds X fun w'=>Vw w' r sv1 rs:=by rw[hX];exact Rds.own
  have rrw:∀z∈rs,Rds X fun w'=>Vw w' z.1.1 fcE z.2:=fun z hz=>by rw[hX];exact Rds.star (zMi hz)
  have rX:∀{P:World->Prop},Rds B P->Rds X P:=fun h=>by rw[hX];exact Rds.star (Rds.star h)
  rw[<-hX] at L11;have KX:rs.length=ls.length:=by rw[<-JS];simp
  obtain⟨PP,Jf⟩:∃P,P=zFc o' (fun z=>hdB z p):=⟨_,rfl⟩;rw[<-Jf] at L11;have JQ:∀x,StN T'.vars x->(ls.any fun z=>hdB x z)=PP x:=fun x hx=>by rw[hA.vars] at hx;rw[JV x hx,Jf,zJ2 epre eap]
  refine za (fun ρ w'=>RgO pv sv tb s goal one T.ops.length i r pre ρ/\Lr s m 1048576 T' q (WR T') X w R (NI+P+(A+U)*8+U*8) (C+17) ((pre,PP)::PsW goal one p st) w') ?_ ?_
  ·by_cases h8:rs.length<=8
   ·have KK:(rs.length:Int)<=8:=by omega
    simp[G11.g12,(L11.frame rr).len,h8,KK];refine zF (n:=rs.length) (by omega) (fun j ρ w'=>RgO pv sv tb s goal one T.ops.length i r pre ρ/\ρ 112=r/\∃u:Nat,ρ 16=.int .i64 (u:Nat)/\Lr s m 1048576 T' q (WR T') X w R (NI+P+j*((A+U)+U)) (C+1+2*j) ((u,fun x=>(ls.take j).any fun z=>hdB x z)::(pre,PP)::PsW goal one p st) w') (by simp) (by simp)
     ⟨by repeat' (first|exact G11|refine RgO.set (by decide) ?_),by simp[G11.g12],0,by simp,L11.mono (by omega) (by omega) fun x hx=>?_⟩ (by decide) ?_ ?_ ?_ ?_
    ·rcases List.mem_cons.1 hx with rfl|hx
     ·exact List.mem_cons_of_mem _ zPS
     ·exact hx
    ·rintro k ρ w v ⟨G,JG,u,JO,L⟩;exact⟨G.set (by decide),by simp[JG],u,by simp[JO],L⟩
    ·rintro k ρ w v ⟨G,JG,u,JO,L⟩;exact⟨G.set (by decide),by simp[JG],u,by simp[JO],L⟩
    ·rintro j ρ Jk hj Jb JZ ⟨G,JG,u,JO,L⟩;obtain⟨z,hz⟩:∃z,rs[j]? = some z:=⟨_,List.getElem?_eq_getElem hj⟩;have Jd:ls[j]? = some z.2:=by rw[<-JS,List.getElem?_map,hz];rfl
     have Jy:zFt T'.vars z.2:=by rw[hA.vars];exact Jo _ (List.mem_of_getElem? Jd)
     have hv:=L.frame rr;have ez:Jk.cell? (r.adr.add j)=some z.1.1:=by simpa using hv.at_ zT hz (o:=0) (u:=z.1.1) rfl
     have Kw:(j:Int)<rs.length:=by omega
     have J7:(j+1)*((A+U)+U)<=8*((A+U)+U):=Nat.mul_le_mul_right _ (by omega);rw[Nat.add_mul,Nat.one_mul] at J7;obtain⟨JJ,Ke⟩:∃J,J=j*((A+U)+U):=⟨_,rfl⟩;rw[<-Ke] at L J7;simp(disch:=omega)[G.g7,JG,JO,Jb,JZ,hv.idx,ez];refine zG (zF7 z.1.1 z.2 hC JL L (rrw z (List.mem_of_getElem? hz)) (zFF Jy) Jy (zOB Jy (V:=12) (by rw[hA.vars];exact J1)) (by rw[<-JN,<-hU,<-JX];omega) (by omega)) ?_;rintro _ Jj ⟨x,rfl,L14⟩;rw[<-hU,<-JX] at L14;simp[G.g7,JO];refine zG (zPm u x (fun y=>(ls.take j).any fun z=>hdB y z) (fun y=>hdB y z.2) hC JL L14 (List.mem_cons_of_mem _ (List.mem_cons_self ..)) (List.mem_cons_self ..) (by rw[<-JN,<-hU];omega) (by omega)) ?_;rintro _ Jv ⟨y,rfl,L15⟩;rw[<-hU] at L15;simp[Jb,JZ,JG];refine⟨by repeat' (first|exact G|refine RgO.set (by decide) ?_),y,rfl,L15.mono (by rw[Nat.add_mul,Nat.one_mul,<-Ke];omega) (by omega) fun x hx=>?_⟩;rcases List.mem_cons.1 hx with rfl|hx
     ·rw[z6 Jd];simp only[List.any_append,List.any_cons,List.any_nil,Bool.or_false];exact List.mem_cons_self ..
     ·exact List.mem_cons_of_mem _ (List.mem_cons_of_mem _ (List.mem_cons_of_mem _ hx))
    ·rintro ρ Jk ⟨G,JG,u,JO,L⟩;have eu:u=pre:=L.eq (List.mem_cons_self ..) (List.mem_cons_of_mem _ (List.mem_cons_self ..)) fun z hz=>by rw[KX,List.take_length];exact JQ z hz
     rw[eu] at JO;simp[G.g14,JO];have J7:rs.length*((A+U)+U)<=8*((A+U)+U):=Nat.mul_le_mul_right _ h8;exact⟨by repeat' (first|exact G|refine RgO.set (by decide) ?_),L.mono (by omega) (by omega) fun x hx=>List.mem_cons_of_mem _ hx⟩
   ·have KK:¬(rs.length:Int)<=8:=by omega
    simp[G11.g12,(L11.frame rr).len,h8,KK];exact⟨by repeat' (first|exact G11|refine RgO.set (by decide) ?_),L11.mono (by omega) (by omega) fun x hx=>hx⟩
  clear G11 L11;rintro ρ QD ⟨G12,L12⟩;obtain⟨NJ,K5⟩:∃N,N=NI+P+(A+U)*8+U*8:=⟨_,rfl⟩;obtain⟨CJ,K8⟩:∃N,N=C+17:=⟨_,rfl⟩;rw[<-K5,<-K8] at L12;have KD:PP=zFc o (fun z=>hdB z p):=by rw[Jf,zJ2 epre eap]
  refine zFx (za (fun ρ w'=>RgO pv sv tb s goal one T.ops.length i r pre ρ/\ρ 21=.int .i64 (ctN T.vars PP:Nat)/\Lr s m 1048576 T' q (WR T') X w R NJ CJ ((pre,PP)::PsW goal one p st) w') ?_ ?_)
  ·have Jc:=L12.frame (rX rO);unfold tkO at Jc;simp[G12.g3,zA Jc,zF1];refine zG (zIW T.vv.1 T.vars (L12.frame (rX rN)).vars (by omega) (fun n hn=>by have:=hT.g.vars n hn;omega) (SmT.sts hT) (fun k hk s hs=>by have:=(zMH k hk s hs).1;omega)) ?_;rintro sv' Jk QA;obtain⟨qs,KY,L13⟩:=(L12.join JL QA).opn;obtain⟨Y,hY⟩:∃Y,Y=zC (zM sv' 22 1 sv1 qs) (zC (zZ nE qs) X):=⟨_,rfl⟩;have Js:Lcl Y:=by rw[hY];exact Lcl.own.star (Lcl.vws.star JL)
   have rsv:Rds Y fun w'=>Vw w' sv' sv1 qs:=by rw[hY];exact Rds.own
   have rqw:∀z∈qs,Rds Y fun w'=>Vw w' z.1.1 nE z.2:=fun z hz=>by rw[hY];exact Rds.star (zMi hz)
   have rY:∀{P:World->Prop},Rds X P->Rds Y P:=fun h=>by rw[hY];exact Rds.star (Rds.star h)
   rw[<-hY] at L13;have Ks:qs.length=(zAs T.vars T.vars.length).length:=by rw[<-KY];simp
   have hN:(zAs T.vars T.vars.length).length<=10000:=SmT.sts hT T.vars.length (Nat.le_refl _);simp[(L13.frame rsv).len];refine zF (n:=qs.length) (by omega) (fun k ρ w'=>RgO pv sv tb s goal one T.ops.length i r pre ρ/\ρ 141=sv'/\ρ 21=.int .i64 ((((zAs T.vars T.vars.length).take k).filter PP).length:Nat)/\Lr s m 1048576 T' q (WR T') Y w R NJ CJ ((pre,PP)::PsW goal one p st) w') (by simp) (by simp)
    ⟨by repeat' (first|exact G12|refine RgO.set (by decide) ?_),by simp,by simp,L13⟩ (by decide) ?_ ?_ ?_ ?_
   ·rintro k ρ w v ⟨G,g1,g2,L⟩;exact⟨G.set (by decide),by simp[g1],by simp[g2],L⟩
   ·rintro k ρ w v ⟨G,g1,g2,L⟩;exact⟨G.set (by decide),by simp[g1],by simp[g2],L⟩
   ·rintro k ρ Jj hk Jp Jn ⟨G,JA,JE,L14⟩;obtain⟨z,hz⟩:∃z,qs[k]? = some z:=⟨_,List.getElem?_eq_getElem hk⟩;have Jd:(zAs T.vars T.vars.length)[k]? = some z.2:=by rw[<-KY,List.getElem?_map,hz];rfl
    have hx:StN T.vars z.2:=zQr (List.mem_of_getElem? Jd);have KQ:=List.mem_of_getElem? hz;obtain⟨cn,Ja⟩:∃n,n=(((zAs T.vars T.vars.length).take k).filter PP).length:=⟨_,rfl⟩;have J8:cn<=10000:=by have h1:(((zAs T.vars T.vars.length).take k).filter PP).length<=_:=List.length_filter_le _ _;rw[List.length_take] at h1;omega
    rw[<-Ja] at JE;refine zFx (zFx (za (fun ρ w'=>RgO pv sv tb s goal one T.ops.length i r pre ρ/\ρ 141=sv'/\ρ 142=.int .i64 (qs.length:Nat)/\ρ 143=.int .i64 (k:Nat)/\ρ 21=.int .i64 (cn:Nat)/\ρ 23=z.1.1/\ρ 26=.bool false/\ρ 25=.bool (hdB z.2 o.pre)/\SuA T o z.2 Y (ρ 24) fun Z=>Lr s m 1048576 T' q (WR T') Z w R NJ CJ ((pre,PP)::PsW goal one p st) w') ?_ ?_))
    ·have hv:=L14.frame rsv;have ez:Jj.cell? (sv'.adr.add k)=some z.1.1:=by simpa using hv.at_ zT hz (o:=0) (u:=z.1.1) rfl
     have QF:(k:Int)<qs.length:=by omega
     have rt:=zEk (L14.frame (rY (rX rO)));simp(disch:=omega)[G.g3,G.g11,JA,Jp,Jn,hv.idx,ez,rt,zF1,zMj,zMk,zF2];refine zG (zLn T z.1.1 z.2 i o (L14.frame (rY (rX rN))) hT.g ho (L14.frame (rqw z KQ)) hx) ?_;rintro x Jv Jh;unfold apV at Jh;by_cases JD:hdB z.2 o.pre=true
     ·rw[if_pos JD] at Jh;obtain⟨u,rfl,Kv⟩:=Jh;simp[JA,JE,Jp,Jn,JD];exact⟨by repeat' (first|exact G|refine RgO.set (by decide) ?_),zM u 3 1 nE (apS o z.2),Lcl.own,fun _=>Rds.own,L14.nw Js Kv⟩
     ·rw[if_neg JD] at Jh;obtain⟨rfl,Kh⟩:=Jh;have J3:hdB z.2 o.pre=false:=by simpa using JD
      simp[JA,JE,Jp,Jn,J3];exact⟨by repeat' (first|exact G|refine RgO.set (by decide) ?_),zZ fcE [],Lcl.vws,fun h=>absurd h JD,(L14.kp0 Js Kh).atk fun ns ks ss hA=>zI.into (zZ.nil (zI.lcl Js) hA)⟩
    clear G JA JE Jp Jn L14;rintro ρ Jv ⟨G,JA,JC,JB,JE,JR,JF,JI,A',K7,J2,L15⟩;obtain⟨nx,Jm⟩:∃nx,nx=ρ 24:=⟨_,rfl⟩;rw[<-Jm] at J2;obtain⟨Z,hZ⟩:∃Z,Z=zC A' Y:=⟨_,rfl⟩;have KG:Lcl Z:=by rw[hZ];exact K7.star Js
    have rZ:∀{P:World->Prop},Rds Y P->Rds Z P:=fun h=>by rw[hZ];exact Rds.star h
    rw[<-hZ] at L15 J2;simp[G.g12,(L15.frame (rZ (rY rr))).len];refine zF (n:=rs.length) (by omega) (fun j ρ w'=>RgO pv sv tb s goal one T.ops.length i r pre ρ/\ρ 141=sv'/\ρ 142=.int .i64 (qs.length:Nat)/\ρ 143=.int .i64 (k:Nat)/\ρ 21=.int .i64 (cn:Nat)/\ρ 23=z.1.1/\ρ 24=nx/\ρ 25=.bool (hdB z.2 o.pre)/\ρ 154=r/\ρ 26=.bool ((ls.take j).any fun y=>hdB z.2 y)/\Lr s m 1048576 T' q (WR T') Z w R NJ CJ ((pre,PP)::PsW goal one p st) w') (by simp) (by simp)
     ⟨by repeat' (first|exact G|refine RgO.set (by decide) ?_),by simp[JA],by simp[JC],by simp[JB],by simp[JE],by simp[JR],by simp[Jm],by simp[JI],by simp[G.g12],by simp[JF],L15⟩ (by decide) ?_ ?_ ?_ ?_
    ·rintro k ρ w v ⟨G,a1,a2,a3,a4,a5,a6,a7,a8,a9,L⟩;exact⟨G.set (by decide),by simp[a1],by simp[a2],by simp[a3],by simp[a4],by simp[a5],by simp[a6],by simp[a7],by simp[a8],by simp[a9],L⟩
    ·rintro k ρ w v ⟨G,a1,a2,a3,a4,a5,a6,a7,a8,a9,L⟩;exact⟨G.set (by decide),by simp[a1],by simp[a2],by simp[a3],by simp[a4],by simp[a5],by simp[a6],by simp[a7],by simp[a8],by simp[a9],L⟩
    ·clear G JA JC JB JE JR JF JI Jm L15;rintro j ρ Ju hj Jb JZ ⟨G,JA,JC,JB,JE,JR,Ji,JI,JP,JF,L16⟩;obtain⟨y,hy⟩:∃y,rs[j]? = some y:=⟨_,List.getElem?_eq_getElem hj⟩;have Jz:ls[j]? = some y.2:=by rw[<-JS,List.getElem?_map,hy];rfl
     have Ki:=List.mem_of_getElem? hy;have KR:=Jo _ (List.mem_of_getElem? Jz);have hv:=L16.frame (rZ (rY rr));have ey:Ju.cell? (r.adr.add j)=some y.1.1:=by simpa using hv.at_ zT hy (o:=0) (u:=y.1.1) rfl
     have Kw:(j:Int)<rs.length:=by omega
     cases hc:(ls.take j).any fun y=>hdB z.2 y with
     |true =>rw[hc] at JF;simp(disch:=omega)[JP,Jb,JZ,hv.idx,ey,JF,JA,JC,JB,JE,JR,Ji,JI];refine⟨by repeat' (first|exact G|refine RgO.set (by decide) ?_),?_,L16⟩;obtain⟨y',Kj,e'⟩:=List.any_eq_true.1 hc;exact⟨y',by rw[z6 Jz];exact List.mem_append_left _ Kj,e'⟩
     |false =>
      rw[hc] at JF;simp(disch:=omega)[JP,Jb,JZ,hv.idx,ey,JF,JA,JC,JB,JE,JR,Ji,JI];refine zG (zCY y.1.1 z.1.1 y.2 z.2 (L16.frame (rZ (rY (rrw y Ki)))) (L16.frame (rZ (rqw z KQ))) (by have:=KR.len;omega) (fun f hf=>by rw[hx.len];exact(KR.rng f hf).1)) ?_;rintro _ Jt ⟨rfl,Jl⟩;have Ky:((ls.take (j+1)).any fun y=>hdB z.2 y)=hdB z.2 y.2:=by rw[z6 Jz,List.any_append,hc,Bool.false_or];simp
      simp only[Ky];simp[JF,JP,Jb,JZ,JA,JC,JB,JE,JR,Ji,JI];exact⟨by repeat' (first|exact G|refine RgO.set (by decide) ?_),L16.kp0 KG Jl⟩
    clear G JA JC JB JE JR JF JI Jm L15;rintro ρ Ju ⟨G,JA,JC,JB,JE,JR,Ji,JI,JP,JF,L16⟩;have Kk:StN T'.vars z.2:=by rw[hA.vars];exact hx
    rw[KX,List.take_length,JQ z.2 Kk] at JF;have J9:(((zAs T.vars T.vars.length).take (k+1)).filter PP).length=cn+if PP z.2=true then 1 else 0:=by rw[z6 Jd,List.filter_append,List.length_append,<-Ja];by_cases hp:PP z.2=true<;>simp[hp]
    have JW:PP z.2=(hdB z.2 o.pre&&hdB (apS o z.2) p):=by rw[KD];rfl
    have JK:∀{w'},Lr s m 1048576 T' q (WR T') Z w R NJ CJ ((pre,PP)::PsW goal one p st) w'->Lr s m 1048576 T' q (WR T') Y w R NJ CJ ((pre,PP)::PsW goal one p st) w':=fun h=>by rw[hZ] at h;exact h.less
    have ecn:(cn:Int)+1=((cn+1:Nat):Int):=by omega
    rw[J9];cases JD:hdB z.2 o.pre with
    |false =>rw[JD] at JI JW;rw[Bool.false_and] at JW;rw[JW] at JF;simp[JF,JI,JW,JA,JC,JB,JE];exact⟨by repeat' (first|exact G|refine RgO.set (by decide) ?_),JK L16⟩
    |true =>
     rw[JD] at JI JW;rw[Bool.true_and] at JW;simp[JF,JI,G.g1,Ji];refine zG (zCY pv nx p (apS o z.2) (L16.frame (rZ (rY (rX rp)))) (L16.frame (J2 JD)) (by have:=JY.len;omega) (fun f hf=>by rw[(zKi hx (hT.g.ops o (List.mem_of_getElem? ho))).len];exact(JY.rng f hf).1)) ?_;rintro _ Jt ⟨rfl,Jl⟩;rw[<-JW];cases hp:PP z.2 with
     |false =>rw[hp] at JF;simp[JF,JI,JA,JC,JB,JE];exact⟨by repeat' (first|exact G|refine RgO.set (by decide) ?_),JK (L16.kp0 KG Jl)⟩
     |true =>rw[hp] at JF;simp(disch:=omega)[JF,JI,JA,JC,JB,JE,zH];exact⟨by repeat' (first|exact G|refine RgO.set (by decide) ?_),JK (L16.kp0 KG Jl)⟩
   ·rintro ρ Jj ⟨G,g1,g2,L⟩;rw[Ks,List.take_length] at g2;simp;rw[hY] at L;exact⟨G,g2,L.less.less⟩
  clear G12 L12;rintro ρ Jk ⟨G,JE,L13⟩;obtain⟨cn,Ja⟩:∃n,n=ctN T.vars PP:=⟨_,rfl⟩;have J8:cn<=10000:=by have h1:((zAs T.vars T.vars.length).filter PP).length<=_:=List.length_filter_le _ _;have h2:=SmT.sts hT T.vars.length (Nat.le_refl _);rw[Ja];unfold ctN;omega
  rw[<-Ja] at JE;simp[G.g7,G.g14];refine zG (zPo pre PP hC JL L13 (List.mem_cons_self ..) (by rw[<-JN,<-KJ];omega)) ?_;rintro _ Jj ⟨rfl,L14⟩;rw[<-KJ] at L14;rw[hA.vars,<-Ja,SpG.six (by unfold many;omega)];simp[JE,G.g7,G.g10,G.g11];refine zG (zPn one i o' (fun z=>decide (z=st)) hK hC (zQk JU) JL L14 (List.mem_cons_of_mem _ zSZ) J4 (by rw[<-JN,<-KI];omega) (by omega)) ?_;rintro _ Jv ⟨img,rfl,L15⟩;rw[<-KI] at L15;simp[G.g7,G.g9];refine zG (zHo img goal (zIO T' o' fun z=>decide (z=st)) (fun z=>hdB z p) hC JL L15 (List.mem_cons_self ..) (List.mem_cons_of_mem _ (List.mem_cons_of_mem _ zJy)) (by rw[<-JN,<-hU];omega) (by omega)) ?_;rintro _ Ju ⟨a,rfl,L16⟩;rw[<-hU] at L16;simp[G.g7,G.g14,G.g2];refine zG (zVZ pre sv st PP JL L16 (List.mem_cons_of_mem _ (List.mem_cons_of_mem _ (List.mem_cons_self ..))) (rX rs0) JM) ?_;rintro _ Jt ⟨rfl,L17⟩;have ha:a=0<->PP st=false:=by
   rw[L17.zero (List.mem_cons_self ..)];have Kc:StN T'.vars (apS o' st):=zKi JM (hG.ops o' JU);have Kb:∀z,StN T'.vars z->(zIO T' o' (fun z=>decide (z=st)) z=true<->hdB st o'.pre=true/\apS o' st=z):=fun z hz=>by
    unfold zIO;rw[List.any_eq_true];constructor
    ·rintro⟨x,hx,e⟩;simp only[Bool.and_eq_true,decide_eq_true_eq] at e;obtain⟨⟨rfl,e2⟩,e3⟩:=e;exact⟨e2,e3⟩
    ·rintro⟨e2,e3⟩;exact⟨st,zEc.2 JM,by simp[e2,e3]⟩
   constructor
   ·intro h;have h1:=h (apS o' st) Kc;rw[Jf];unfold zFc;cases Ku:hdB st o'.pre with
    |false=>rfl
    |true =>rw[(Kb _ Kc).2 ⟨Ku,rfl⟩] at h1;simpa using h1
   ·intro h z hz;cases Kx:zIO T' o' (fun z=>decide (z=st)) z with
    |false=>rfl
    |true =>obtain⟨e1,e2⟩:=(Kb z hz).1 Kx;rw[Jf] at h;unfold zFc at h;rw[e1,e2] at h;simpa using h
  have Je:Lr s m 1048576 T' q (WR T') B w R (stR (zD T'.vars)+(i+1)*opR (zD T'.vars)) (4+(i+1)*20) (PsW goal one p st) Jt:=by have h1:=L17.mono (N':=NI+NO) (c':=4+(i+1)*20) (ps':=PsW goal one p st) (by omega) (by omega) (fun x hx=>List.mem_cons_of_mem _ (List.mem_cons_of_mem _ (List.mem_cons_of_mem _ hx)));rw[hX] at h1;rw[Nat.add_mul,Nat.one_mul,<-Nat.add_assoc,<-KF,<-Jr];exact h1.less.less
  cases hb:PP st with
  |false =>have ea:=ha.2 hb;simp[ea,G.g85,G.g86];exact⟨by simp[G.g1],by simp[G.g2],by simp[G.g3],by simp[G.g7],by simp[G.g9],by simp[G.g10],Je⟩
  |true =>
   have ea:¬a=0:=fun h=>by rw[ha.1 h] at hb;cases hb
   have ea2:(((a:Nat):Int)==0)=false:=by rw[beq_eq_false_iff_ne];omega
   have ea3:(((a:Nat):Int) != 0)=true:=by rw[bne_iff_ne];omega
   simp[ea,ea2,ea3,G.g85,G.g86];exact⟨by simp[G.g1],by simp[G.g2],by simp[G.g3],by simp[G.g7],by simp[G.g9],by simp[G.g10],Je⟩
end
end Go.Proofs.YtolkjbmcindhjaaGreat
section
namespace Go.Rx
open Go Go.W Go.Tk
theorem getD_set_ne{d:List Nat}{i j x:Nat}(h:i≠j):(d.set i x).getD j 0=d.getD j 0:=by simp only[List.getD,List.getElem?_set_ne h]
end Go.Rx
namespace Go.Proofs.YtolkjbmcindhjaaGreat
open Go Go.W Go.Tk Go.Rx Go.Maps
def goalB(T:Nt)(i:Nat):Bool:=match (zAs T.vars T.vars.length)[i]? with|some s=>hdB s T.goal|none=>false
def d0(T:Nt)(i:Nat):Nat:=if goalB T i=true then 0 else Inf
end Go.Proofs.YtolkjbmcindhjaaGreat
end
section
namespace Go.Rx
open Go Go.W Go.Tk
end Go.Rx
namespace Go.Proofs.YtolkjbmcindhjaaGreat
open Go Go.W Go.Tk Go.Rx Go.Maps
def hM(T:Nt)(vS:List Nat->Nat->Nat)(s:List Nat):Nat:=grF T.vars (vS s) T.goal
def hI(T:Nt)(vS:List Nat->Nat->Nat)(i:Nat):Nat:=match (zAs T.vars T.vars.length)[i]? with|some s=>hM T vS s|none=>0
end Go.Proofs.YtolkjbmcindhjaaGreat
end
namespace Go.W
section
open Go Go.ChangeShapes Go.WideShapes Go.ChangeAt Go.RowKit Go.Deep
section
variable {H:Type} {enc:TypeId×Value->H} {P:Program}
theorem zQJ{α:Type}{encα:α->List Value}{ok:α->Prop}{W:World}{t e:TypeId}{sz:Nat}{v:Value}{fu:Nat}{x:DataW H×List MemPlace}(ht:P.underlying t=some (.slice e))(hC:P.cellsOf e=sz)(hz:0<sz)(he:∀x,(encα x).length=sz)
  (JO:∀n cs x,cs.length=sz->DataW.trod enc P W 0 (fun _=>true) true n e cs=some x->∃a,cs=encα a/\ok a)
  (h:DataW.trod enc P W 0 (fun _=>true) true fu t [v]=some x) :
  ∃l:List α,Vw W v encα l/\(∀a∈l,ok a)/\l.length<=maxLen:=by
 rcases open_slice ht h with⟨JA,hx⟩|⟨a,len,cap,m,n,D,Pl,JA,hb,hl,hm,JF,hx,hi⟩
 ·simp at JA;subst JA;exact⟨[],Vw.nil _ _,by simp,by simp⟩
 ·simp at JA;subst JA;simp only[if_true] at JF;subst JF;obtain⟨n0,JE⟩:∃n0,n0=len:=⟨_,rfl⟩;rw[<-JE] at hl ⊢;have key:∀k,k<=m->∃l:List α,l.length=k/\(∀x∈l,ok x)/\∀j u,(l.flatMap encα)[j]? = some u->W.cell? (a.add j)=some u:=by
   intro k
   induction k with
   |zero=>exact fun _=>⟨[],rfl,by simp,by simp⟩
   |succ k ih =>
    intro hk;obtain⟨l,JC,ho,hc⟩:=ih (by omega);obtain⟨cs,JA,JK⟩:=hi k (by omega);rw[hC] at JA;obtain⟨_,JB,JD⟩:=World.cells?_some JA;obtain⟨x,rfl,JL⟩:=JO _ _ _ JB JK;refine⟨l++[x],by simp[JC],?_,?_⟩
    ·intro y hy;rcases List.mem_append.1 hy with h1|h1
     ·exact ho y h1
     ·simp at h1;subst h1;exact JL
    ·intro j u hj;rw[List.flatMap_append,List.flatMap_cons,List.flatMap_nil,List.append_nil] at hj;have JH:=zJ he l;rw[JC] at JH;by_cases JP:j<k*sz
     ·rw[List.getElem?_append_left (by omega)] at hj;exact hc j u hj
     ·rw[List.getElem?_append_right (by omega),JH] at hj;have JN:j-k*sz<sz:=by have h9:=(List.getElem?_eq_some_iff.1 hj).1;rw[he x] at h9;exact h9
      have:=JD (j-k*sz) JN;rw[Go.Deep.add_add,show k*sz+(j-k*sz)=j by omega] at this;rw[this];exact hj
  obtain⟨l,JC,ho,hc⟩:=key m (Nat.le_refl _);have JI:Vw W (.slice (some a) n0 m) encα (l.take n0):=by
   have JB:(l.take n0).length=n0:=by simp;omega
   refine .inr ⟨a,m,by rw[JB],by omega,fun JM=>?_,fun j u hj=>hc j u ?_⟩
   ·have JE:0<n0:=by
     rcases Nat.eq_zero_or_pos n0 with h0|h0
     ·subst h0;simp at JM
     ·exact h0
    obtain⟨cs,JA,_⟩:=hi 0 (by omega);rw[hC] at JA;obtain⟨_,JG,JD⟩:=World.cells?_some JA;have h1:=JD 0 hz;rw[List.getElem?_eq_getElem (by omega)] at h1;have:=World.cell?_spot h1;rw[Go.Deep.add_add] at this;simp at this;simpa[Addr.add] using this
   ·have:l.flatMap encα=(l.take n0).flatMap encα++(l.drop n0).flatMap encα:=by rw[<-List.flatMap_append,List.take_append_drop]
    rw[this,List.getElem?_append_left (List.getElem?_eq_some_iff.1 hj).1];exact hj
  exact⟨_,JI,fun x hx=>ho x (List.mem_of_mem_take hx),by rw[List.length_take];omega⟩
end
end
end Go.W
