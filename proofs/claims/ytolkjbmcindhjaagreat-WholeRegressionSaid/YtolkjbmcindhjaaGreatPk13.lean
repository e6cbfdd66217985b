/-
  Parts of the proof of this claim's statement; no conditions beyond those each theorem names.
-/
import Derived.Test.YtolkjbmcindhjaaGreatPk12
import Derived.Test.YtolkjbmcindhjaaGreatPk06
set_option maxRecDepth 100000
set_option linter.unusedSimpArgs false
set_option linter.unusedVariables false
set_option linter.unusedSectionVars false
set_option maxHeartbeats 8000000
namespace Go.Proofs.YtolkjbmcindhjaaGreat
section
open Go Go.W Go.Tk Go.Rx
def JiI(w:World)(u v xv:Value)(x:List Go.Tk.Fc)(b o:List (List Go.Tk.Fc))(n i:Nat)(j:Nat)(ρ:Env)(w':World):Prop :=
 ρ 1=v/\ρ 9=xv/\ρ 16=u/\ρ 17=.int .i64 (n:Nat)/\ρ 18=.int .i64 (i:Nat)/\ρ 22=v/\JoS w (ρ 6) (ρ 7) ((b.take j).foldl (jn1 x) o) w'
theorem zF8{w:World}(u v:Value)(ps qs:List Rw)(hu:zIP w u ps)(hv:zIP w v qs)(vu:∀p∈ps,vB p.2=true/\p.2.length<=1000)(vv:∀p∈qs,vB p.2=true/\p.2.length<=1000)(J5:ps.length<=100000)(J4:qs.length<=100000)
  (hz:∀p∈ps,∀q∈qs,∀z,jn p.2 q.2=some z->z.length<=1000) (JS:(jnL (ps.map (·.2)) (qs.map (·.2))).length<=1024) :
  Calls Tryz.prog 141 [u,v].toArray w fun e w'=>∃r,e=.returned (.tuple #[r,.nilIface])/\At w [] (zC (LLA r 23 fcE (jnL (ps.map (·.2)) (qs.map (·.2)))) Emp) w':=by
 refine enter Tryz.func141 mixed low141 (Nat.le_of_ble_eq_true rfl) ?_;simp only[L141];obtain⟨a,ha⟩:∃a,a=ps.map (·.2):=⟨_,rfl⟩;obtain⟨b,hb⟩:∃b,b=qs.map (·.2):=⟨_,rfl⟩;rw[<-ha,<-hb] at JS ⊢;have Jx:a.length=ps.length:=by rw[ha];simp
 have Jw:b.length=qs.length:=by rw[hb];simp
 simp[hu.vw.len];refine zF (n:=ps.length) (by omega) (fun i ρ w'=>ρ 1=v/\ρ 16=u/\JoS w (ρ 6) (ρ 7) ((a.take i).foldl (fun o x=>jnR x b o) []) w') (by simp) (by simp)
  ⟨by simp,by simp,by simpa using JoS.nil w⟩ (by decide) (fun _ _ _ _ h=>by simpa using h) (fun _ _ _ _ h=>by simpa using h) ?_ ?_
 rotate_left
 ·rintro ρ w4 ⟨g1,JB,h4⟩;rw[<-Jx,List.take_length] at h4;obtain⟨ops,sps,hm,_,_,_,h5⟩:=h4;simp;exact LLA.cls hm (h5.by (Imp.un Imp.dr))
 rintro i ρ w4 hi hc JD ⟨g1,JB,h4⟩;have Jh:=hu.kp h4.kw;obtain⟨p,hp⟩:∃p,ps[i]? = some p:=⟨_,List.getElem?_eq_getElem hi⟩;have JW:=List.mem_of_getElem? hp;have Jk:a[i]? = some p.2:=by rw[ha,List.getElem?_map,hp];rfl
 have ei:w4.cell? (u.adr.add i)=some p.1.1:=by simpa using Jh.vw.at_ zT hp (o:=0) (u:=p.1.1) rfl
 have J8:(i:Int)<ps.length:=by omega
 have Jr:=hv.kp h4.kw;simp(disch:=omega)[g1,JB,hc,JD,Jh.vw.idx,ei,Jr.vw.len];obtain⟨o,ho⟩:∃o,o=(a.take i).foldl (fun o x=>jnR x b o) []:=⟨_,rfl⟩;rw[zAu (fun o x=>jnR x b o) a i p.2 Jk,<-ho];rw[<-ho] at h4;have JR:(jnR p.2 b o).length<=1024:=by refine Nat.le_trans (zNU b (a.drop (i+1)) _) (Nat.le_trans (Nat.le_of_eq ?_) JS);unfold jnL;rw[zDk _ a (i+1),zAu (fun o x=>jnR x b o) a i p.2 Jk,<-ho]
 refine zF (n:=qs.length) (by omega) (JiI w u v p.1.1 p.2 b o ps.length i) (by simp) (by simp)
  ⟨by simp[g1],by simp,by simp[JB],by simp[JD],by simp[hc],by simp[g1],by simpa using h4⟩ (by decide) (fun _ _ _ _ h=>by unfold JiI at h ⊢;simpa using h) (fun _ _ _ _ h=>by unfold JiI at h ⊢;simpa using h) ?_ ?_
 rotate_left
 ·clear g1 JB hc JD h4;rintro ρ w5 ⟨g1,g9,JB,JK,JI,JU,h5⟩;rw[<-Jw,List.take_length] at h5;simp[g1,JB,JK,JI];exact h5
 clear g1 JB hc JD h4;rintro j ρ w5 hj JZ JX ⟨g1,g9,JB,JK,JI,JU,h5⟩;have Js:=hu.kp h5.kw;have Ja:=hv.kp h5.kw;obtain⟨q,hq⟩:∃q,qs[j]? = some q:=⟨_,List.getElem?_eq_getElem hj⟩;have JV:=List.mem_of_getElem? hq;have Jj:b[j]? = some q.2:=by rw[hb,List.getElem?_map,hq];rfl
 have ej:w5.cell? (v.adr.add j)=some q.1.1:=by simpa using Ja.vw.at_ zT hq (o:=0) (u:=q.1.1) rfl
 have J7:(j:Int)<qs.length:=by omega
 obtain⟨ov,JO⟩:∃ov,ov=ρ 6:=⟨_,rfl⟩;obtain⟨sv,JM⟩:∃sv,sv=ρ 7:=⟨_,rfl⟩;rw[<-JO,<-JM] at h5;obtain⟨c,hc⟩:∃c,c=(b.take j).foldl (jn1 p.2) o:=⟨_,rfl⟩;have JA:=zAu (jn1 p.2) b j q.2 Jj o;rw[<-hc] at h5 JA;have JF:(jn1 p.2 c q.2).length<=1024:=by refine Nat.le_trans (zIr p.2 (b.drop (j+1)) _) (Nat.le_trans (Nat.le_of_eq ?_) JR);unfold jnR;rw[zDk _ b (j+1),zAu (jn1 p.2) b j q.2 Jj,<-hc]
 have stay:∀w',jn1 p.2 c q.2=c->JoS w ov sv c w'->JoS w ov sv ((b.take (j+1)).foldl (jn1 p.2) o) w':=fun w' e h=>by rw[JA,e];exact h
 simp(disch:=omega)[g1,g9,JB,JK,JI,JU,JZ,JX,Ja.vw.idx,ej];refine zG (zNQ p.1.1 q.1.1 p.2 q.2 (Js.row p JW) (Ja.row q JV) (vu p JW).2 (vv q JV).2 (vu p JW).1 (vv q JV).1) ?_;rintro r w6 (⟨z,zv,JY,rfl,h6⟩|⟨JY,zv,rfl,k6⟩)
 rotate_left
 ·have e1:jn1 p.2 c q.2=c:=by unfold jn1;rw[JY]
  simp;unfold JiI;simp[g1,g9,JB,JK,JI,JU,<-JO,<-JM];exact⟨JZ,JX,stay _ e1 (h5.kp k6)⟩
 have Jp:=hz p JW q JV z JY;have e1:jn1 p.2 c q.2=zCp c z:=by unfold jn1;rw[JY]
 have j6:=h5.kp h6.kp;obtain⟨ops,sps,hm,JC,JG,Ji,h7⟩:=h5;have hL:Lcl (zC (zM ov 23 1 sv1 ops) (zC (zM sv 23 1 sv1 sps) (zC (zZ fcE ops) Emp))):=Lcl.own.star (Lcl.own.star (Lcl.vws.star .emp));have h8:=At.nw hL h7 (Nw.of h6);have J6:ops.length=c.length:=by rw[<-hm];simp
 have J3:sps.length=ops.length:=JC.length_eq;have J9:=zNW p.2 c q.2;have Jt:zIP w6 sv sps:=⟨h8.drop.drop.own.vw,fun y hy=>(h8.drop.drop.drop).vws (JC.mem_iff.1 hy),fun y hy=>by have:=Ji y (JC.mem_iff.1 hy);omega⟩;simp[<-JM];refine zG (zTq sv zv sps z Jt h8.own.vw (by omega) (by omega) (zPI JG)) ?_;rintro _ w9 ⟨⟨k,hk,rfl⟩,k9⟩;have JE:=zQW JG hk;have JH:z∈sps.map (·.2)<->z∈c:=by rw[<-hm];exact(JC.map _).mem_iff
 by_cases JL:z∈c
 ·rw[decide_eq_true (JH.2 JL)] at JE;simp[JE];unfold JiI;simp[g1,g9,JB,JK,JI,JU,<-JO,<-JM];exact⟨JZ,JX,stay _ (by rw[e1];unfold zCp;rw[if_pos JL]) (j6.kp k9)⟩
 rw[decide_eq_false (fun h=>JL (JH.1 h))] at JE;have e2:jn1 p.2 c q.2=c++[z]:=by rw[e1];unfold zCp;rw[if_neg JL]
 rw[e2] at JF JA;have Ju:c.length<=1023:=by simp at JF;omega
 have Jv:c.length≠1024:=by omega
 have Je:ops.length≠1024:=by omega
 have JQ:¬((ops.length:Nat):Int)=1024:=by omega
 have h9:=h8.kp0 (Lcl.own.star hL) k9;have o9:=h9.own;have Jd:(((ops.length:Nat):Int)==1024)=false:=by rw[beq_eq_false_iff_ne];exact JQ
 have c9:=o9.c1;simp[JE,<-JO,h9.drop.own.len,Je,JQ,Jd,<-JM,zW,c9];have zo:=o9.o1;obtain⟨Jg,Jq⟩:∃Jg,Jg=w9.alloc (.cells #[zv] 23):=⟨_,rfl⟩;have Jl:=h9.kp0 (Lcl.own.star hL) ((Kp.refl [] w9).alloc (.cells #[zv] 23));have Jf:(w9.alloc (.cells #[zv] 23)).heap[w9.heap.size]? = some (.cells #[zv] 23 (0,0)):=zO;have Jb:w9.heap.size∉sv.own:=fun hx=>by have:=Lcl.own.lt (w:=w9) (F:=sv.own) (A:=zM sv 23 1 sv1 sps) ⟨h9.drop.drop.own,rfl⟩ _ hx;omega
 refine zG (zLS (z:=(⟨⟨zv,zo⟩,z⟩:Rw)) Jl.drop.drop.own Jf Jb hk.le (by omega)) ?_;rintro sv' Jn ⟨Jo,Jc,o11⟩;have J2:=At.ownStep (Lcl.own.star (Lcl.own.star (Lcl.vws.star .emp))) Jl.rot3 Jo o11 Jc;have JT:Lcl (zC (zM sv' 23 1 sv1 (sps.take k++(⟨⟨zv,zo⟩,z⟩:Rw)::sps.drop k)) (zC (zM zv 100 2 fcE z) (zC (zZ fcE ops) Emp))):=Lcl.own.star (Lcl.own.star (Lcl.vws.star .emp));have J1:=J2.rot3;simp[<-JO,zW,c9];have J0:=J1.kp0 (Lcl.own.star JT) ((Kp.refl [] Jn).alloc (.cells #[zv] 23));refine At.append (xs:=[(⟨⟨zv,zo⟩,z⟩:Rw)]) JT J0 zT zB9 zIY rfl (fun j x hj=>?_) (by omega) (by unfold maxLen;omega) fun ov' Jm Jz=>?_
 ·cases j with
  |succ j=>simp[sv1] at hj
  |zero =>simp[sv1] at hj;subst hj;rw[zAm,zA zO];rfl
 have Jy:=(Jz.rot3.own_vw.tor3).by (Imp.un (Imp.un (zZ.add zo)));have JN:(sps.take k++(⟨⟨zv,zo⟩,z⟩:Rw)::sps.drop k).Perm (ops++[(⟨⟨zv,zo⟩,z⟩:Rw)]):=by have h1:(sps.take k++(⟨⟨zv,zo⟩,z⟩:Rw)::sps.drop k).Perm ((⟨⟨zv,zo⟩,z⟩:Rw)::(sps.take k++sps.drop k)):=List.perm_middle;rw[List.take_append_drop] at h1;exact h1.trans ((List.Perm.cons _ JC).trans (List.perm_append_singleton _ _).symm)
 have JP:JoS w ov' sv' (c++[z]) Jm:=⟨_,_,by simp[hm],JN,zR7 JG hk (fun h=>JL (JH.1 h)),fun p hp=>by
  rcases List.mem_append.1 hp with h|h
  ·exact Ji p h
  ·simp at h;subst h;exact Jp,Jy⟩
 rw[<-JA] at JP;unfold JiI;simp[g1,g9,JB,JK,JI,JU,JZ,JX];exact JP
end
section
open Go Go.W Go.Tk Go.Rx
def esF(es:List Nf)(v:Nat):List Nf:=es.filter fun e=>decide (e.v=v)
def chL(vars:List Nat)(x:Nat)(l:List (List Go.Tk.Fc))(es:List Nf):List (List Go.Tk.Fc):=es.foldl (fun l e=>if e.x=x then l else jnL l (zBV vars e.cnd)) l
def zEE(vars:List Nat)(f:Go.Tk.Fc)(es:List Nf)(t:Nat):List (List Go.Tk.Fc) :=
 if t<es.length then(match es[es.length-1-t]? with|some e=>if e.x=f.2 then chL vars f.2 [e.cnd] (es.drop (es.length-t)) else []|none=>[]) else chL vars f.2 [[f]] es
def csT(vars:List Nat)(f:Go.Tk.Fc)(es:List Nf)(t:Nat):List (List Go.Tk.Fc):=(List.range t).foldl (fun o s=>(zEE vars f es s).foldl zCp o) []
def csL(vars:List Nat)(f:Go.Tk.Fc)(es:List Nf):List (List Go.Tk.Fc):=csT vars f (esF es f.1) ((esF es f.1).length+1)
theorem zBG(vars:List Nat)(f:Go.Tk.Fc)(es:List Nf)(t:Nat):csT vars f es (t+1)=(zEE vars f es t).foldl zCp (csT vars f es t):=by
 unfold csT;rw[List.range_succ,List.foldl_append];rfl
theorem zG9:∀(l o:List (List Go.Tk.Fc)),o.length<=(l.foldl zCp o).length
 |[],o=>Nat.le_refl _
 |z::l,o=>Nat.le_trans (zKl o z) (zG9 l _)
theorem zQO(vars:List Nat)(f:Go.Tk.Fc)(es:List Nf){s t:Nat}(h:s<=t):(csT vars f es s).length<=(csT vars f es t).length:=by
 induction t with
 |zero =>
  have:s=0:=by omega
  subst this;exact Nat.le_refl _
 |succ t ih =>
  by_cases e:s=t+1
  ·subst e;exact Nat.le_refl _
  ·rw[zBG];exact Nat.le_trans (ih (by omega)) (zG9 _ _)
structure zBA(n:Nat)(z:List Go.Tk.Fc):Prop where
 v:vB z=true
 lt:∀f∈z,f.1<n
theorem zHJ{z:List Go.Tk.Fc}(h:vB z=true):z.Pairwise fun a b=>a.1<b.1:=by
 have step:∀i,(hi:i+1<z.length)->(z[i]'(by omega)).1<(z[i+1]'hi).1:=fun i hi=>by have:=List.all_eq_true.1 h (i+1) (List.mem_range.2 hi);unfold vAt at this;simp[List.getD,List.getElem?_eq_getElem hi,List.getElem?_eq_getElem (show i<z.length by omega)] at this;exact this
 have main:∀d i,(hi:i+d+1<z.length)->(z[i]'(by omega)).1<(z[i+d+1]'hi).1:=by
  intro d
  induction d with
  |zero=>intro i hi;exact step i hi
  |succ d ih=>intro i hi;exact Nat.lt_trans (ih i (by omega)) (step (i+d+1) (by omega))
 rw[List.pairwise_iff_getElem];intro i j hi hj JA;obtain⟨d,rfl⟩:∃d,j=i+d+1:=⟨j-i-1,by omega⟩;exact main d i hj
theorem zPR{z:List Go.Tk.Fc}(h:z.Pairwise fun a b=>a.1<b.1):vB z=true:=by
 refine zL8 fun i hi=>?_;unfold vAt;by_cases h0:i=0
 ·simp[h0]
 ·have:=List.pairwise_iff_getElem.1 h (i-1) i (by omega) hi (by omega);simp[List.getD,List.getElem?_eq_getElem hi,List.getElem?_eq_getElem (show i-1<z.length by omega),this]
theorem zU6{z:List Nat}:∀{n:Nat},z.Pairwise (·<·)->(∀x∈z,x<n)->z.length<=n:=by
 intro n h1 h2;have:∀(z:List Nat) (lo:Nat),z.Pairwise (·<·)->(∀x∈z,lo<=x/\x<n)->z.length+lo<=n\/z=[]:=by
  intro z
  induction z with
  |nil=>intro lo _ _;exact .inr rfl
  |cons x z ih =>
   intro lo hp hb;obtain⟨a,b⟩:=List.pairwise_cons.1 hp;have hx:=hb x (by simp);rcases ih (x+1) b (fun y hy=>⟨a y hy,(hb y (by simp[hy])).2⟩) with h|h
   ·left;simp;omega
   ·subst h;left;simp;omega
 rcases this z 0 h1 (fun x hx=>⟨Nat.zero_le _,h2 x hx⟩) with h|h
 ·omega
 ·subst h;simp
theorem zBA.len{n:Nat}{z:List Go.Tk.Fc}(h:zBA n z):z.length<=n:=by
 have:=zU6 (z:=z.map (·.1)) (n:=n) (List.pairwise_map.2 (zHJ h.v)) (fun x hx=>by obtain⟨f,hf,rfl⟩:=List.mem_map.1 hx;exact h.lt f hf);simpa using this
theorem zS5{n:Nat}{x y z:List Go.Tk.Fc}(hx:zBA n x)(hy:zBA n y)(h:jn x y=some z):zBA n z:=by
 unfold jn at h;split at h
 ·rename_i hv;cases h;refine⟨hv,fun f hf=>?_⟩;rw[zCz,List.mem_append] at hf;exact hf.elim (hx.lt f) (hy.lt f)
 ·cases h
theorem zKm{P:List Go.Tk.Fc->Prop}{o:List (List Go.Tk.Fc)}{z:List Go.Tk.Fc}(h:∀y∈o,P y)(hz:P z):∀y∈zCp o z,P y:=by
 unfold zCp;split
 ·exact h
 ·intro y hy;rcases List.mem_append.1 hy with h1|h1
  ·exact h y h1
  ·simp at h1;subst h1;exact hz
theorem zNS{P:List Go.Tk.Fc->Prop}{x:List Go.Tk.Fc}:∀(b o:List (List Go.Tk.Fc)),(∀y∈b,∀z,jn x y=some z->P z)->(∀y∈o,P y)->∀y∈jnR x b o,P y
 |[],o,_,h=>h
 |y::b,o,hb,h=>by
  refine zNS b (jn1 x o y) (fun y' JA=>hb y' (by simp[JA])) ?_;unfold jn1;cases hj:jn x y with
  |none=>exact h
  |some z=>exact zKm h (hb y (by simp) z hj)
theorem zNV{P:List Go.Tk.Fc->Prop}{b:List (List Go.Tk.Fc)}:∀(a o:List (List Go.Tk.Fc)),(∀x∈a,∀y∈b,∀z,jn x y=some z->P z)->(∀y∈o,P y)->∀y∈a.foldl (fun o x=>jnR x b o) o,P y
 |[],o,_,h=>h
 |x::a,o,ha,h=>zNV a _ (fun x' JA=>ha x' (by simp[JA])) (zNS b o (ha x (by simp)) h)
theorem zRG{n:Nat}{a b:List (List Go.Tk.Fc)}(ha:∀x∈a,zBA n x)(hb:∀x∈b,zBA n x):∀z∈jnL a b,zBA n z :=
 zNV a [] (fun x hx y hy z hj=>zS5 (ha x hx) (hb y hy) hj) (by simp)
theorem zGV{n:Nat}{f:Go.Tk.Fc}(h:f.1<n):zBA n [f]:=⟨by simp[vB,vAt],fun g hg=>by simp at hg;subst hg;exact h⟩
theorem zQx{n:Nat}{vars:List Nat}{l:List Go.Tk.Fc}(h:∀f∈l,f.1<n):∀z∈zBV vars l,zBA n z:=fun z hz=>by
 unfold zBV at hz;obtain⟨f,hf,hz⟩:=List.mem_flatMap.1 hz;unfold zHD at hz;obtain⟨y,_,rfl⟩:=List.mem_map.1 hz;exact zGV (h f hf)
theorem zJe{vars:List Nat}(hn:∀n∈vars,n<=64):∀l:List Go.Tk.Fc,(zBV vars l).length<=64*l.length
 |[]=>by simp[zBV]
 |f::l=>by
  have h1:=zJe hn l;have h2:=zGR f (vars.getD f.1 0);have h3:vars.getD f.1 0<=64:=by
   rw[List.getD];cases hq:vars[f.1]? with
   |none=>simp
   |some n=>exact hn n (List.mem_of_getElem? hq)
  have e:zBV vars (f::l)=zHD f (vars.getD f.1 0)++zBV vars l:=by unfold zBV;rw[List.flatMap_cons]
  rw[e,List.length_append];simp only[List.length_cons];omega
theorem zIA{n:Nat}{vars:List Nat}{x:Nat}:∀(es:List Nf) (l:List (List Go.Tk.Fc)),(∀e∈es,∀f∈e.cnd,f.1<n)->(∀z∈l,zBA n z)->∀z∈chL vars x l es,zBA n z
 |[],l,_,h=>h
 |e::es,l,he,h=>by
  refine zIA es _ (fun e' JA=>he e' (by simp[JA])) ?_;show ∀z∈(if e.x=x then l else jnL l (zBV vars e.cnd)),zBA n z;split
  ·exact h
  ·exact zRG h (zQx (he e (by simp)))
end
section
open Go Go.W Go.Tk Go.Rx
theorem Own.tl2{P:Program}{α:Type}{enc:α->List Value}{sz E:Nat}{l:List α}{v:Value}{w:World}{T by_:Nat}{z:List Value}(h:Own w v E sz enc l)(he:∀x,(enc x).length=sz)(hT:zn P T=some (E,sz,by_,z))
  {k:Nat} {k1:IntKind} (hk:k<=l.length):∃u,(∀w',(Instr.sliceAt T v (some (.int k1 k)) none none).run P w'=.ok u w')/\zAn u=true /\
   ∀w1,Own w1 v E sz enc l->Vw w1 u enc (l.drop k):=by
 by_cases JB:k<l.length
 ·obtain⟨u,h1,h2,h3⟩:=Own.tl (P:=P) h he hT (k1:=k1) JB;exact⟨u,h1,h2,fun w1 ho=>h3 w1 l ho rfl⟩
 ·have JD:k=l.length:=by omega
  obtain⟨u,hu,hv,JA⟩:@zPJ P (Instr.sliceAt T v (some (.int k1 k)) none none) ⟨fun u=>Vw w u enc (l.drop k)/\zAn u=true⟩:=h.vw.slice_lo he hT hk fun v' hv _=>⟨hv,hv.o1⟩;refine⟨u,hu,JA,fun w1 _=>?_⟩;rw[List.drop_of_length_le (by omega)] at hv ⊢;rcases hv with⟨rfl,_⟩|⟨a,cap,rfl,JC,hs,hc⟩
  ·exact Vw.nil _ _
  ·exact .inr ⟨a,cap,rfl,JC,hs,fun j u hj=>by simp at hj⟩
theorem rv{P:Program}{f:Nat}{args:Array Value}{w:World}{α:Type}{g:α->Value}{R:α->World->Prop}(h:Calls P f args w fun e w'=>∃u,e=.returned (g u)/\R u w'):Calls P f args w fun e w'=>∃v,e=.returned v/\∃u,v=g u/\R u w' :=
 h.mono fun _ _ ⟨u,he,hr⟩=>⟨_,he,u,rfl,hr⟩
def opO(o:No):Obj:=.cells #[.string o.name,.int .i64 (o.cost:Nat),o.pv.1,o.ev.1] 41 (0,0)
def opV(o:No):Value:=.agg #[.string o.name,.int .i64 (o.cost:Nat),o.pv.1,o.ev.1]
theorem zKS{es:List Nf}{v i:Nat}{e:Nf}(h:es[i]? = some e):esF (es.take (i+1)) v=esF (es.take i) v++if e.v=v then [e] else []:=by
 unfold esF;rw[z6 h,List.filter_append];by_cases hv:e.v=v<;>simp[hv]
def CeX(ev:Value)(es:List Nf)(fb ob:Nat)(f:Go.Tk.Fc)(o:No):Asr:=zC (zM ev 87 3 nfE es) (zC (zL fb (fcO f)) (zC (zL ob (opO o)) Emp))
theorem Lcl.ceX{ev:Value}{es:List Nf}{fb ob:Nat}{f:Go.Tk.Fc}{o:No}:Lcl (CeX ev es fb ob f o):=Lcl.own.star (Lcl.obj.star (Lcl.obj.star .emp))
def CsS(O:Rw->Prop)(w:World)(ov:Value)(o:List (List Go.Tk.Fc))(lv:Value)(l:List (List Go.Tk.Fc))(X:Asr)(w':World):Prop :=
 ∃ops lps pool:List Rw,ops.map (·.2)=o/\lps.map (·.2)=l/\(∀p∈ops++lps,(p∈pool\/O p)/\p.2.length<=1000)/\At w [] (zC (zM ov 23 1 sv1 ops) (zC (zM lv 23 1 sv1 lps) (zC (zZ fcE pool) X))) w'
theorem CsS.kw{O:Rw->Prop}{w w1:World}{ov lv:Value}{o l:List (List Go.Tk.Fc)}{X:Asr}(h:CsS O w ov o lv l X w1):Kp [] w w1:=by
 obtain⟨ops,lps,pool,a,b,c,e⟩:=h;exact e.kp
theorem CsS.kp{O:Rw->Prop}{w w1 w2:World}{ov lv:Value}{o l:List (List Go.Tk.Fc)}{X:Asr}(hX:Lcl X)(h:CsS O w ov o lv l X w1)(k:Kp [] w1 w2):CsS O w ov o lv l X w2:=by
 obtain⟨ops,lps,pool,a,b,c,e⟩:=h;exact⟨ops,lps,pool,a,b,c,e.kp0 (Lcl.own.star (Lcl.own.star (Lcl.vws.star hX))) k⟩
theorem CsS.outR{O:Rw->Prop}{w w1:World}{ov lv:Value}{o l:List (List Go.Tk.Fc)}{X:Asr}(hO:∀p,O p->Vw w p.1.1 fcE p.2)(h:CsS O w ov o lv l X w1):∃ps:List Rw,ps.map (·.2)=o/\zIP w1 ov ps:=by
 obtain⟨ops,lps,pool,a,b,c,e⟩:=h;refine⟨ops,a,e.own.vw,fun p hp=>?_,fun p hp=>by have:=(c p (by simp[hp])).2;omega⟩;rcases(c p (by simp[hp])).1 with h1|h1
 ·exact e.drop.drop.vws h1
 ·exact(hO _ h1).kp0 e.kp
theorem CsS.lstR{O:Rw->Prop}{w w1:World}{ov lv:Value}{o l:List (List Go.Tk.Fc)}{X:Asr}(hO:∀p,O p->Vw w p.1.1 fcE p.2)(h:CsS O w ov o lv l X w1):∃ps:List Rw,ps.map (·.2)=l/\zIP w1 lv ps:=by
 obtain⟨ops,lps,pool,a,b,c,e⟩:=h;refine⟨lps,b,e.drop.own.vw,fun p hp=>?_,fun p hp=>by have:=(c p (by simp[hp])).2;omega⟩;rcases(c p (by simp[hp])).1 with h1|h1
 ·exact e.drop.drop.vws h1
 ·exact(hO _ h1).kp0 e.kp
theorem zZ.app{α:Type}{enc:α->List Value}{ps qs:List (zP×List α)}{X:Asr}:Imp (zC (zZ enc ps) (zC (zZ enc qs) X)) (zC (zZ enc (ps++qs)) X):=by
 rintro w F ⟨Fa,Fx,⟨h1,h2,rfl⟩,⟨Fb,Fc,⟨h3,h4,rfl⟩,h5,hd,rfl⟩,JA,rfl⟩;refine⟨_,⟨_,Fc,⟨fun p hp=>?_,fun x hx=>?_,_root_.rfl⟩,h5,fun x hx hc=>?_,_root_.rfl⟩,fun x hx=>?_⟩
 ·rcases List.mem_append.1 hp with h|h
  ·exact h1 p h
  ·exact h3 p h
 ·rw[List.flatMap_append] at hx;rcases List.mem_append.1 hx with h|h
  ·exact h2 x h
  ·exact h4 x h
 ·rw[List.flatMap_append] at hx;rcases List.mem_append.1 hx with h|h
  ·exact JA x h (by simp[hc])
  ·exact hd x h hc
 ·rw[List.flatMap_append] at hx;simp only[List.mem_append] at hx ⊢;rcases hx with (h|h)|h
  ·exact .inl h
  ·exact .inr (.inl h)
  ·exact .inr (.inr h)
theorem CsS.lst{O:Rw->Prop}{w w1 w2:World}{ov lv u:Value}{o l l':List (List Go.Tk.Fc)}{X:Asr}(hX:Lcl X)(h:CsS O w ov o lv l X w1)(t:At w1 [] (zC (LLA u 23 fcE l') Emp) w2)(hl:∀z∈l',z.length<=1000):CsS O w ov o u l' X w2:=by
 obtain⟨ops,lps,pool,a,b,c,e⟩:=h;obtain⟨ps,hp,t2⟩:=LLA.opn t;have hL:Lcl (zC (zM ov 23 1 sv1 ops) (zC (zZ fcE pool) X)):=Lcl.own.star (Lcl.vws.star hX);have e2:At w [] (zC (zM ov 23 1 sv1 ops) (zC (zZ fcE pool) X)) w1:=e.by (Imp.un Imp.dr);have e3:At w [] (zC (zC (zM u 23 1 sv1 ps) (zZ fcE ps)) (zC (zM ov 23 1 sv1 ops) (zC (zZ fcE pool) X))) w2:=by have t3:At w1 [] (zC (zM u 23 1 sv1 ps) (zZ fcE ps)) w2:=t2.by fun W F1 ⟨Fa,Fx,h1,⟨Fb,Fc,h2,h3,hd,e1⟩,JB,e⟩=>⟨Fa++Fb,⟨Fa,Fb,h1,h2,fun x hx hb=>JB x hx (by rw[e1];simp[hb]),rfl⟩,fun x hx=>by rw[e,e1];simp at hx ⊢;rcases hx with h|h<;>simp[h]⟩;obtain⟨F1,JC,hs⟩:=t3.ex;exact e2.more hL t3.kp ⟨F1,JC,fun x hx=>by rcases hs x hx with h|h;cases h;exact h⟩
 have e4:At w [] (zC (zM u 23 1 sv1 ps) (zC (zZ fcE ps) (zC (zM ov 23 1 sv1 ops) (zC (zZ fcE pool) X)))) w2:=e3.assoc;have e5:At w [] (zC (zM ov 23 1 sv1 ops) (zC (zM u 23 1 sv1 ps) (zC (zZ fcE (ps++pool)) X))) w2:=(e4.rot3).by (Imp.un (Imp.un zZ.app));refine⟨ops,ps,ps++pool,a,hp,fun p JA=>?_,e5⟩;rcases List.mem_append.1 JA with h|h
 ·have:=c p (by simp[h]);exact⟨this.1.imp (fun h=>by simp[h]) id,this.2⟩
 ·exact⟨.inl (by simp[h]),hl _ (by rw[<-hp];exact List.mem_map_of_mem h)⟩
theorem CsS.x{O:Rw->Prop}{w w1:World}{ov lv:Value}{o l:List (List Go.Tk.Fc)}{X:Asr}(h:CsS O w ov o lv l X w1):At w [] X w1:=by
 obtain⟨ops,lps,pool,a,b,c,e⟩:=h;exact e.drop.drop.drop
theorem Imp.toEm{A:Asr}:Imp A Emp:=fun w F _=>⟨[],rfl,by simp⟩
theorem CsS.lit{O:Rw->Prop}{w w1:World}{ov lv:Value}{o l:List (List Go.Tk.Fc)}{X:Asr}(hX:Lcl X)(h:CsS O w ov o lv l X w1)(f:Go.Tk.Fc) :
  CsS O w ov o (.slice (some ⟨(w1.alloc (.cells #[.int .i64 (f.1:Nat),.int .i64 (f.2:Nat)] 100)).heap.size,0,none⟩) 1 1) [[f]] X ((w1.alloc (.cells #[.int .i64 (f.1:Nat),.int .i64 (f.2:Nat)] 100)).alloc (.cells #[.slice (some ⟨w1.heap.size,0,none⟩) 1 1] 23)):=by
 have t1:=(At.start rfl:At w1 [] Emp w1).lit (xs:=[f]) (enc:=fcE) (E:=100) (sz:=2) (cs:=#[.int .i64 (f.1:Nat),.int .i64 (f.2:Nat)]) (m:=1) .emp (by simp[fcE]) zf (by simp[maxLen]) rfl;have zo:=t1.own.o1;obtain⟨p,hp⟩:∃p:Rw,p=(⟨.slice (some ⟨w1.heap.size,0,none⟩) 1 1,zo⟩,[f]):=⟨_,rfl⟩;have t2:=t1.lit (xs:=[p]) (enc:=sv1) (E:=23) (sz:=1) (cs:=#[.slice (some ⟨w1.heap.size,0,none⟩) 1 1]) (m:=1) (Lcl.own.star .emp) (by simp[sv1,hp]) zT (by simp[maxLen]) rfl;have t3:=(t2.rot.own_vw);have t4:=zZ.nil (enc:=fcE) (Lcl.vw.star (Lcl.own.star .emp)) t3;have t5:=(t4.rot).by (zZ.add zo);refine h.lst hX (LLA.cls (ps:=[p]) (by simp[hp]) ((t5.rot).by (Imp.un (by rw[hp];exact Imp.rfl)))) (by simp)
theorem CsS.box{O:Rw->Prop}{w w1:World}{ov lv:Value}{o l:List (List Go.Tk.Fc)}{X:Asr}{KW:zw World}(hX:Lcl X)(h:CsS O w ov o lv l X w1){z:Array Value}{E b:Nat}{cs:List Value}(hb:b=w1.heap.size)(hs:0+cs.length<=z.size)(h1:cs.all zAn=true)
  (H:∀w2,CsS O w ov o lv l (zC (zL b (.cells (zBh z 0 cs) E (0,0))) X) w2->Kp [] w1 w2->KW.run w2):@stJ (w1.alloc (.cells z E (0,0))) ⟨b,0,none⟩ cs KW:=by
 obtain⟨ops,lps,pool,a,b',c,e⟩:=h;have hL:Lcl (zC (zM ov 23 1 sv1 ops) (zC (zM lv 23 1 sv1 lps) (zC (zZ fcE pool) X))):=Lcl.own.star (Lcl.own.star (Lcl.vws.star hX));have e1:=e.alloc (.cells z E (0,0)) hL;rw[<-hb] at e1;rw[zHR,zEh e1.obj];simp only[zDJ,zJi];refine zHw ⟨trivial,hs,h1⟩ ?_;exact H _ ⟨ops,lps,pool,a,b',c,(e1.setB hL).tor4⟩ (((Kp.refl [] w1).alloc _).setB (.inr (by rw[hb];exact Nat.le_refl _)) _)
theorem zWW(ops:List Rw)(z:List Go.Tk.Fc):ceB ops z=decide (z∈ops.map (·.2)):=by
 rw[Bool.eq_iff_iff];unfold ceB;simp only[List.any_eq_true,decide_eq_true_eq,List.mem_map,zJI]
theorem CsS.unbox{O:Rw->Prop}{w w1:World}{ov lv:Value}{o l:List (List Go.Tk.Fc)}{A X:Asr}(h:CsS O w ov o lv l (zC A X) w1):CsS O w ov o lv l X w1:=by
 obtain⟨ops,lps,pool,a,b',c,e⟩:=h;exact⟨ops,lps,pool,a,b',c,e.by (Imp.un (Imp.un (Imp.un Imp.dr)))⟩
theorem CsS.add{O:Rw->Prop}{w w1:World}{ov lv:Value}{o l:List (List Go.Tk.Fc)}{X:Asr}{KV:zw (Value×World)}{ty:Nat}(hO:∀p,O p->Vw w p.1.1 fcE p.2)(hX:Lcl X)(h:CsS O w ov o lv l X w1){i:Nat}{z:List Go.Tk.Fc}(hz:l[i]? = some z)(hl:o.length<=100000) :
  ∃zv,w1.cell? (lv.adr.add i)=some zv/\Vw w1 zv fcE z/\((∀v' w2,CsS O w v' (o++[z]) lv l X w2->KV.run (v',w2))->@efH Tryz.prog (Builtin.append_ #[74,74] ty [ov,.slice (some ⟨w1.heap.size,0,none⟩) 1 1].toArray) (w1.alloc (.cells #[zv] 23)) KV):=by
 obtain⟨ops,lps,pool,a,b,c,e⟩:=h;obtain⟨p,hp,JA⟩:∃p:Rw,lps[i]? = some p/\p.2=z:=by
  rw[<-b,List.getElem?_map] at hz;cases hq:lps[i]? with
  |none=>rw[hq] at hz;cases hz
  |some p=>rw[hq] at hz;exact⟨p,rfl,by simpa using hz⟩
 have JB:=List.mem_of_getElem? hp;have hc:=c p (by simp[JB]);have hL:Lcl (zC (zM lv 23 1 sv1 lps) (zC (zZ fcE pool) X)):=Lcl.own.star (Lcl.vws.star hX);have JC:ops.length=o.length:=by rw[<-a];simp
 refine⟨p.1.1,by simpa using e.drop.own.vw.at_ zT hp (o:=0) (u:=p.1.1) rfl,?_,fun H=>?_⟩
 ·rw[<-JA];rcases hc.1 with h1|h1
  ·exact e.drop.drop.vws h1
  ·exact(hO _ h1).kp0 e.kp
 ·have e2:=e.kp0 (Lcl.own.star hL) ((Kp.refl [] w1).alloc (.cells #[p.1.1] 23));refine At.append (xs:=[p]) hL e2 zT zB9 zIY rfl (fun j x hj=>?_) (by omega) (by unfold maxLen;omega) fun v' w2 h2=>H v' w2 ⟨ops++[p],lps,pool,by simp[a,JA],b,fun q hq=>?_,h2⟩
  ·cases j with
   |succ j=>simp[sv1] at hj
   |zero =>simp[sv1] at hj;subst hj;rw[zAm,zA zO];rfl
  ·simp only[List.append_assoc,List.mem_append,List.mem_singleton] at hq;rcases hq with h|h|h
   ·exact c q (by simp[h])
   ·subst h;exact hc
   ·exact c q (by simp[h])
theorem CsS.old{O:Rw->Prop}{w w1:World}{ov lv:Value}{o l:List (List Go.Tk.Fc)}{X:Asr}(hX:Lcl X)(h:CsS O w ov o lv l X w1){c:zP}{cnd:List Go.Tk.Fc}(hc:O (c,cnd))(hl:cnd.length<=1000) :
  CsS O w ov o (.slice (some ⟨w1.heap.size,0,none⟩) 1 1) [cnd] X (w1.alloc (.cells #[c.1] 23)):=by
 obtain⟨ops,lps,pool,a,b,d,e⟩:=h;have e2:At w [] (zC (zM ov 23 1 sv1 ops) (zC (zZ fcE pool) X)) w1:=e.by (Imp.un Imp.dr);have t2:=e2.lit (xs:=[((c,cnd):Rw)]) (enc:=sv1) (E:=23) (sz:=1) (cs:=#[c.1]) (m:=1) (Lcl.own.star (Lcl.vws.star hX)) (by simp[sv1]) zT (by simp[maxLen]) rfl;refine⟨ops,[(c,cnd)],pool,a,rfl,fun p hp=>?_,t2.rot⟩;rcases List.mem_append.1 hp with h|h
 ·exact d p (by simp[h])
 ·simp at h;subst h;exact⟨.inr hc,hl⟩
end
section
open Go Go.W Go.Tk Go.Rx
def WnO(o:No)(p:Rw):Prop:=∃e∈o.effs,p.1=e.wv/\p.2=e.cnd
def CrS(o:No)(w:World)(r:Value)(l:List (List Go.Tk.Fc))(w':World):Prop :=
 ∃ops pool:List Rw,ops.map (·.2)=l/\(∀p∈ops,(p∈pool\/WnO o p)/\p.2.length<=1000)/\At w [] (zC (zM r 23 1 sv1 ops) (zC (zZ fcE pool) Emp)) w'
structure EsG(n:Nat)(es:List Nf):Prop where
 c2:∀e∈es,e.cnd.length<=2
 lt:∀e∈es,∀g∈e.cnd,g.1<n
 vb:∀e∈es,vB e.cnd=true
theorem zLj{w:World}(vv:Value)(vars:List Nat)(o:No)(f:Go.Tk.Fc)(hv:Vw w vv nE vars)(ho:NoR w o)(hG:EsG vars.length o.effs)(hf:f.1<vars.length)(Kt:vars.length<=12)(JY:∀n∈vars,n<=64)(Kh:o.effs.length<=64)
  (JD:∀(s:List Go.Tk.Fc) (a b:Nat),(chL vars f.2 [s] (((esF o.effs f.1).drop a).take b)).length<=1024) (JP:(csL vars f o.effs).length<=1024) :
  Calls Tryz.prog 140 [vv,opV o,fcV f].toArray w fun e w'=>∃r,e=.returned (.tuple #[r,.nilIface])/\CrS o w r (csL vars f o.effs) w':=by
 have hO:∀p,WnO o p->Vw w p.1.1 fcE p.2:=fun p ⟨e,he,e1,e2⟩=>by rw[e1,e2];exact ho.cnd e he
 refine enter Tryz.func140 mixed low140 (Nat.le_of_ble_eq_true rfl) ?_;simp only[L140];obtain⟨ob,J2⟩:∃b,b=w.heap.size:=⟨_,rfl⟩;obtain⟨w1,KF⟩:∃w1,w1=w.alloc (opO o):=⟨_,rfl⟩;have h1:At w [] (zC (zL ob (opO o)) Emp) w1:=by rw[J2,KF];exact(At.start rfl:At w [] Emp w).alloc _ .emp
 have Jw:w.alloc (.cells #[.string o.name,.int .i64 (o.cost:Nat),o.pv.1,o.ev.1] 41 (0,0))=w1:=by rw[KF];rfl
 have KM:Lcl (zC (zL ob (opO o)) Emp):=Lcl.obj.star .emp;obtain⟨fb,J5⟩:∃b,b=w1.heap.size:=⟨_,rfl⟩;obtain⟨w2,KD⟩:∃w2,w2=w1.alloc (fcO f):=⟨_,rfl⟩;have h2:At w [] (zC (zL fb (fcO f)) (zC (zL ob (opO o)) Emp)) w2:=by rw[J5,KD];exact h1.alloc _ KM
 have Jv:w1.alloc (.cells #[.int .i64 (f.1:Nat),.int .i64 (f.2:Nat)] 100 (0,0))=w2:=by rw[KD];rfl
 have KL:Lcl (zC (zL fb (fcO f)) (zC (zL ob (opO o)) Emp)):=Lcl.obj.star KM;have o2:=h2.drop.obj;unfold opO at o2;have KZ:=ho.kp h2.kp;simp[opV,fcV,<-J2,Jw,<-J5,Jv,zA o2,KZ.effs.len];have h3:At w [] (CeX (.slice none 0 0) (esF (o.effs.take 0) f.1) fb ob f o) w2:=At.nil KL h2;refine zF (n:=o.effs.length) (by omega) (fun i ρ w'=>ρ 0=vv/\ρ 4=.pointer (some ⟨ob,0,none⟩)/\ρ 5=.pointer (some ⟨fb,0,none⟩)/\ρ 21=o.ev.1/\At w [] (CeX (ρ 8) (esF (o.effs.take i) f.1) fb ob f o) w') (by simp) (by simp)
  ⟨by simp,by simp[<-J2],by simp[<-J5],by simp,by simpa using h3⟩ (by decide) (fun _ _ _ _ h=>by simpa using h) (fun _ _ _ _ h=>by simpa using h) ?_ ?_
 ·rintro i ρ w4 hi hc JS ⟨g0,g4,g5,JX,h4⟩;obtain⟨ev,JN⟩:∃ev,ev=ρ 8:=⟨_,rfl⟩;rw[<-JN] at h4;have KJ:=ho.kp h4.kp;obtain⟨e,he⟩:∃e,o.effs[i]? = some e:=⟨_,List.getElem?_eq_getElem hi⟩;have ee:=KJ.effs.cells zA7 he;simp only[nfE] at ee;have Kf:(i:Int)<o.effs.length:=by omega
  obtain⟨eb,heb⟩:∃b,b=w4.heap.size:=⟨_,rfl⟩;have Km:At w [] (zC (zL eb (.cells #[.slice none 0 0,.int .i64 0,.int .i64 0] 87 (0,0))) (CeX ev (esF (o.effs.take i) f.1) fb ob f o)) (w4.alloc (.cells #[.slice none 0 0,.int .i64 0,.int .i64 0] 87 (0,0))):=by rw[heb];exact h4.alloc _ Lcl.ceX
  simp(disch:=omega)[g0,g4,g5,JX,hc,JS,KJ.effs.idx,ee,<-heb];refine Km.st Lcl.ceX (by simp) (by simp[e.wv.2]) fun w5 h5=>?_;have Jo:At w [] (zC (zL eb (zOv e)) (CeX ev (esF (o.effs.take i) f.1) fb ob f o)) w5:=by simpa[zOv] using h5
  have oe:=Jo.obj;have of:=Jo.drop.drop.obj;unfold zOv at oe;unfold fcO at of;have et:=zKS (v:=f.1) he;by_cases JU:e.v=f.1
  ·rw[if_pos JU] at et;have JR:(((e.v:Nat):Int)==((f.1:Nat):Int))=true:=by simp[JU]
   have ce:zK w5 ⟨eb,0,none⟩ 0 3=some [e.wv.1,.int .i64 (e.v:Nat),.int .i64 (e.x:Nat)]:=by simp[zK,Addr.add,zA oe]
   simp[g0,g4,g5,JX,<-heb,zA oe,zA of,JU,JR,<-JN,ce,zW];have h6:=Jo.drop.kp0 Lcl.ceX ((Kp.refl [] w5).alloc (.cells #[e.wv.1,.int .i64 (f.1:Nat),.int .i64 (e.x:Nat)] 87));have Kg:(esF (o.effs.take i) f.1).length<=64:=Nat.le_trans (List.length_filter_le _ _) (Nat.le_trans (List.length_take_le _ _) (by omega));refine At.append (xs:=[e]) KL h6 zA7 zM3 zSA rfl (fun j x hj=>?_) (by omega) (by unfold maxLen;omega) fun v' w7 h7=>?_
   ·rw[zAm,zA zO];simpa[nfE,JU] using hj
   simp[g0,g4,g5,JX,hc,JS,<-heb,et];exact h7
  ·rw[if_neg JU,List.append_nil] at et;have JR:(((e.v:Nat):Int)==((f.1:Nat):Int))=false:=by rw[beq_eq_false_iff_ne];omega
   simp[g0,g4,g5,JX,hc,JS,<-heb,zA oe,zA of,JU,JR,<-JN,et];exact Jo.drop
 rintro ρ w4 ⟨g0,g4,g5,JX,h4⟩;rw[List.take_length] at h4;obtain⟨es,Jl⟩:∃es,es=esF o.effs f.1:=⟨_,rfl⟩;obtain⟨ev,JN⟩:∃ev,ev=ρ 8:=⟨_,rfl⟩;obtain⟨n,hn⟩:∃n,n=es.length:=⟨_,rfl⟩;have JA:∀e∈es,e∈o.effs:=fun e he=>by rw[Jl] at he;exact(List.mem_filter.1 he).1
 have Ka:n<=64:=by rw[hn,Jl];exact Nat.le_trans (List.length_filter_le _ _) Kh
 have Ki:csL vars f o.effs=csT vars f es (n+1):=by unfold csL;rw[<-Jl,hn]
 rw[<-Jl] at JD h4;rw[<-JN] at h4;rw[Ki] at JP ⊢;simp(disch:=omega)[<-JN,h4.own.len,<-hn,zH];obtain⟨X,hX⟩:∃X,X=CeX ev es fb ob f o:=⟨_,rfl⟩;have JF:Lcl X:=by rw[hX];exact Lcl.ceX
 rw[<-hX] at h4;have i0:CsS (WnO o) w (.slice none 0 0) (csT vars f es 0) (.slice none 0 0) [] X w4:=⟨[],[],[],rfl,rfl,by simp,At.nil (Lcl.own.star (Lcl.vws.star JF)) (At.nil (Lcl.vws.star JF) (zZ.nil JF h4))⟩;refine z8 (fun m ρ w'=>∃t:Nat,t+m=n+1/\ρ 0=vv/\ρ 5=.pointer (some ⟨fb,0,none⟩)/\ρ 8=ev/\ρ 12=.int .i64 ((n:Int)-1-(t:Nat))/\∃lv l,CsS (WnO o) w (ρ 11) (csT vars f es t) lv l X w') (n+1)
  ⟨0,by omega,by simp[g0],by simp[g5],by simp[JN],by simp,_,_,by simpa using i0⟩ ?_
 clear g0 g4 g5 JX JN i0 h4;rintro m ρ w5 ⟨t,Ku,g0,g5,g8,g12,lv,l,h5⟩;obtain⟨ov,Jj⟩:∃ov,ov=ρ 11:=⟨_,rfl⟩;rw[<-Jj] at h5;by_cases h0:m=0
 ·have ht:t=n+1:=by omega
  subst ht;have Jk:¬(-1:Int)<=(n:Int)-1-((n:Int)+1):=by omega
  obtain⟨ops,lps,pool,a,b,c,e⟩:=h5;have Kv:ops.length=(csT vars f es (n+1)).length:=by rw[<-a];simp
  have Kc:¬(1024:Int)<ops.length:=by omega
  have J4:¬1024<ops.length:=by omega
  simp[g12,Jk,<-Jj,e.own.len,Kc,J4];exact⟨ops,pool,a,fun p hp=>c p (by simp[hp]),e.by (Imp.un (Imp.dr.trans (Imp.un Imp.toEm)))⟩
 refine za (fun ρ w'=>ρ 0=vv/\ρ 5=.pointer (some ⟨fb,0,none⟩)/\ρ 8=ev/\ρ 12=.int .i64 ((n:Int)-1-(t:Nat))/\ρ 11=ov/\w'=w5) ?_ ?_
 ·have Jk:(-1:Int)<=(n:Int)-1-(t:Int):=by omega
  simp[g0,g5,g8,g12,Jj,Jk]
 clear g0 g5 g8 g12 Jj;rintro ρ w5' ⟨g0,g5,g8,g12,g11,KC⟩;rw[KC,zL2,zL3];clear KC w5';have Ju:=h5.x;rw[hX] at Ju;have of:=Ju.drop.obj;unfold fcO at of;have cf:zK w5 ⟨fb,0,none⟩ 0 2=some [.int .i64 (f.1:Nat),.int .i64 (f.2:Nat)]:=by simp[zK,Addr.add,zA of]
 refine za (fun ρ w6=>ρ 0=vv/\ρ 5=.pointer (some ⟨fb,0,none⟩)/\ρ 8=ev/\ρ 12=.int .i64 ((n:Int)-1-(t:Nat))/\ρ 11=ov/\CsS (WnO o) w ov (csT vars f es t) (ρ 13) [[f]] X w6) ?_ ?_
 ·simp[g0,g5,g8,g12,g11,cf,zW];simpa using h5.lit JF f
 clear g0 g5 g8 g12 g11 cf of Ju h5;rintro ρ w6 ⟨g0,g5,g8,g12,g11,h6⟩;refine za (fun ρ w7=>ρ 0=vv/\ρ 5=.pointer (some ⟨fb,0,none⟩)/\ρ 8=ev/\ρ 12=.int .i64 ((n:Int)-1-(t:Nat))/\ρ 11=ov/\∃s,zEE vars f es t=chL vars f.2 [s] (es.drop (n-t))/\zBA vars.length s/\CsS (WnO o) w ov (csT vars f es t) (ρ 13) [s] X w7) ?_ ?_
 ·by_cases KS:t=n
  ·have e1:(n:Int)-1-(t:Int)=-1:=by omega
   rw[e1] at g12 ⊢;simp[g0,g5,g8,g12,g11];refine⟨[f],?_,zGV hf,h6⟩;unfold zEE;rw[if_neg (by omega),KS,Nat.sub_self];rfl
  have Jk:(0:Int)<=(n:Int)-1-(t:Int):=by omega
  obtain⟨i,hi⟩:∃i,i=n-1-t:=⟨_,rfl⟩;have ei:(n:Int)-1-(t:Int)=(i:Int):=by omega
  obtain⟨e,he⟩:∃e,es[i]? = some e:=⟨_,List.getElem?_eq_getElem (by omega)⟩;have JH:=List.mem_of_getElem? he;have Jt:=h6.x;rw[hX] at Jt;have v6:=Jt.own.vw;have of:=Jt.drop.obj;unfold fcO at of;have Kf:(i:Int)<es.length:=by omega
  have ex:=v6.fld zA7 he (o:=2) (u:=.int .i64 (e.x:Nat)) rfl;have ew:=v6.fld zA7 he (o:=0) (u:=e.wv.1) rfl;have KK:(0:Int)<=(i:Int):=by omega
  have Kj:=(ho.cnd e (JA e JH)).c1;have JB:zEE vars f es t=if e.x=f.2 then chL vars f.2 [e.cnd] (es.drop (n-t)) else []:=by unfold zEE;rw[if_pos (by omega),<-hn,<-hi,he]
  rw[ei] at g12 ⊢;by_cases JG:e.x=f.2
  ·rw[if_pos JG] at JB;have JQ:(((e.x:Nat):Int) != ((f.2:Nat):Int))=false:=by simp[JG]
   simp(disch:=omega)[g0,g5,g8,g12,g11,KK,v6.idx,ex,ew,JG,JQ,zA of,Kj,zW];have h7:=(h6.kp JF (Kp.refl [] w6).drew).old JF (c:=e.wv) (cnd:=e.cnd) ⟨e,JA e JH,rfl,rfl⟩ (by have:=hG.c2 e (JA e JH);omega);exact⟨e.cnd,JB,⟨hG.vb e (JA e JH),hG.lt e (JA e JH)⟩,h7⟩
  ·rw[if_neg JG] at JB;have JQ:(((e.x:Nat):Int) != ((f.2:Nat):Int))=true:=by simp;omega
   simp(disch:=omega)[g0,g5,g8,g12,g11,KK,v6.idx,ex,ew,JG,JQ,zA of];have h7:=h6.kp JF (Kp.refl [] w6).drew;have e2:csT vars f es (t+1)=csT vars f es t:=by rw[zBG,JB];rfl
   rw[<-e2] at h7;exact⟨n+1-(t+1),by omega,t+1,by omega,by rw[zH (by omega) (by omega)];omega,_,_,h7⟩
 clear g0 g5 g8 g12 g11 h6;rintro ρ w7 ⟨g0,g5,g8,g12,g11,s,JB,hs,h7⟩;obtain⟨a,ha⟩:∃a,a=n-t:=⟨_,rfl⟩;rw[<-ha] at JB;have Jn:∀e∈es,∀g∈e.cnd,g.1<vars.length:=fun e he=>hG.lt e (JA e he);have Js:=h7.x;rw[hX] at Js;obtain⟨tv,KR,KQ,KP⟩:=Own.tl2 (P:=Tryz.prog) Js.own zA7 zSA (k:=a) (k1:=.i64) (by omega);have KG:∀{w'},At w [] X w'->Vw w' tv nfE (es.drop a):=fun h=>KP _ (by rw[hX] at h;exact h.own);have Kw:(es.drop a).length=n-a:=by rw[List.length_drop,hn]
 refine za (fun ρ w8=>ρ 0=vv/\ρ 5=.pointer (some ⟨fb,0,none⟩)/\ρ 8=ev/\ρ 12=.int .i64 ((n:Int)-1-(t:Nat))/\ρ 11=ov/\CsS (WnO o) w ov (csT vars f es t) (ρ 13) (zEE vars f es t) X w8) ?_ ?_
 ·have e1:IntKind.i64.wrap ((n:Int)-1-(t:Int)+1)=(a:Int):=by rw[zH (by omega) (by omega)];omega
  simp[g0,g5,g8,g12,g11,e1];refine zA4 KR ?_;simp[(KG h7.x).len];have i0:CsS (WnO o) w ov (csT vars f es t) (ρ 13) (chL vars f.2 [s] ((es.drop a).take 0)) X w7:=h7;refine zF (n:=(es.drop a).length) (by omega) (fun k ρ w'=>ρ 0=vv/\ρ 5=.pointer (some ⟨fb,0,none⟩)/\ρ 8=ev/\ρ 12=.int .i64 ((n:Int)-1-(t:Nat))/\ρ 11=ov/\ρ 66=tv/\CsS (WnO o) w ov (csT vars f es t) (ρ 13) (chL vars f.2 [s] ((es.drop a).take k)) X w') (by simp) (by simp)
   ⟨by simp[g0],by simp[g5],by simp[g8],by simp[g12],by simp[g11],by simp,by simpa using i0⟩ (by decide) (fun _ _ _ _ h=>by simpa using h) (fun _ _ _ _ h=>by simpa using h) ?_ ?_
  rotate_left
  ·clear g0 g5 g8 g12 g11 i0;rintro ρ w8 ⟨g0,g5,g8,g12,g11,Je,h8⟩;rw[List.take_length,<-JB] at h8;simp[g0,g5,g8,g12,g11];exact h8
  clear g0 g5 g8 g12 g11 i0;rintro k ρ w8 hk JL JK ⟨g0,g5,g8,g12,g11,Je,h8⟩;obtain⟨e,he⟩:∃e,(es.drop a)[k]? = some e:=⟨_,List.getElem?_eq_getElem hk⟩;have JH:e∈es:=List.mem_of_mem_drop (List.mem_of_getElem? he);have v8:=KG h8.x;have ee:=v8.cells zA7 he;simp only[nfE] at ee;have Ke:(k:Int)<(es.drop a).length:=by omega
  obtain⟨eb,heb⟩:∃b,b=w8.heap.size:=⟨_,rfl⟩;have ech:chL vars f.2 [s] ((es.drop a).take (k+1))=if e.x=f.2 then chL vars f.2 [s] ((es.drop a).take k) else jnL (chL vars f.2 [s] ((es.drop a).take k)) (zBV vars e.cnd):=zAu (fun(l:List (List Go.Tk.Fc)) (e:Nf)=>if e.x=f.2 then l else jnL l (zBV vars e.cnd)) (es.drop a) k e he [s];obtain⟨lv,JI⟩:∃lv,lv=ρ 13:=⟨_,rfl⟩;rw[<-JI] at h8;simp(disch:=omega)[g0,g5,g8,g12,g11,Je,JL,JK,v8.idx,ee,<-heb];refine h8.box JF heb (by simp) (by simp[e.wv.2]) fun w9 h9 _=>?_;have KN:CsS (WnO o) w ov (csT vars f es t) lv (chL vars f.2 [s] ((es.drop a).take k)) (zC (zL eb (zOv e)) X) w9:=by simpa[zOv] using h9
  have Jr:=KN.x;have oe:=Jr.obj;rw[hX] at Jr;have of:=Jr.drop.drop.obj;unfold zOv at oe;unfold fcO at of;have JW:=KN.unbox;by_cases JG:e.x=f.2
  ·rw[if_pos JG] at ech;have JQ:(((e.x:Nat):Int)==((f.2:Nat):Int))=true:=by simp[JG]
   simp[g0,g5,g8,g12,g11,Je,JL,JK,<-heb,zA oe,zA of,JG,JQ,<-JI,ech];exact JW
  rw[if_neg JG] at ech;have JQ:(((e.x:Nat):Int)==((f.2:Nat):Int))=false:=by rw[beq_eq_false_iff_ne];omega
  have ce:zK w9 ⟨eb,0,none⟩ 0 3=some [e.wv.1,.int .i64 (e.v:Nat),.int .i64 (e.x:Nat)]:=by simp[zK,Addr.add,zA oe]
  simp[g0,g5,g8,g12,g11,Je,JL,JK,<-heb,zA oe,zA of,JG,JQ,<-JI,ce];have Jx:=zIa vv vars e (hv.kp0 JW.kw) ((ho.cnd e (JA e JH)).kp0 JW.kw) (hG.c2 e (JA e JH)) (Jn e JH) JY;refine zG (rv Jx) ?_;rintro _ J6 ⟨qv,rfl,Jc⟩;have Jp:=JW.kp JF Jc.kp;obtain⟨lps,JV,Jb⟩:=Jp.lstR hO;obtain⟨qps,Jh,JZ⟩:=LLA.opn Jc;have J1:∀z∈chL vars f.2 [s] ((es.drop a).take k),zBA vars.length z:=zIA _ _ (fun e he=>Jn e (List.mem_of_mem_drop (List.mem_of_mem_take he))) (by simpa using hs);have J0:∀z∈zBV vars e.cnd,zBA vars.length z:=zQx (Jn e JH);have Jz:∀p∈lps,zBA vars.length p.2:=fun p hp=>J1 _ (by rw[<-JV];exact List.mem_map_of_mem hp);have Ji:∀p∈qps,zBA vars.length p.2:=fun p hp=>J0 _ (by rw[<-Jh];exact List.mem_map_of_mem hp);have KT:qps.length<=100000:=by
   have e1:qps.length=(zBV vars e.cnd).length:=by rw[<-Jh];simp
   have e2:=zJe JY e.cnd;have e3:=hG.c2 e (JA e JH);omega
  have J3:lps.length<=100000:=by
   have e1:lps.length=(chL vars f.2 [s] ((es.drop a).take k)).length:=by rw[<-JV];simp
   have:=JD s a k;omega
  have KX:zIP J6 qv qps:=⟨JZ.own.vw,fun p hp=>JZ.drop.vws hp,fun p hp=>by have:=(Ji p hp).len;omega⟩;have hj:=zF8 lv qv lps qps Jb KX (fun p hp=>⟨(Jz p hp).v,by have:=(Jz p hp).len;omega⟩) (fun p hp=>⟨(Ji p hp).v,by have:=(Ji p hp).len;omega⟩) J3 KT (fun p hp q hq z hz=>by have:=(zS5 (Jz p hp) (Ji q hq) hz).len;omega) (by rw[JV,Jh,<-ech];exact JD s a (k+1));rw[JV,Jh,<-ech] at hj;simp[<-JI];refine zG (rv hj) ?_;rintro _ Kr ⟨rv',rfl,Kq⟩;have Ko:=Jp.lst JF Kq (fun z hz=>by have:=zIA (vars:=vars) (x:=f.2) ((es.drop a).take (k+1)) [s] (fun e he=>Jn e (List.mem_of_mem_drop (List.mem_of_mem_take he))) (by simpa using hs) z hz;have:=this.len;omega);simp[g0,g5,g8,g12,g11,Je,JL,JK];exact Ko
 clear g0 g5 g8 g12 g11 h7 Js;rintro ρ w8 ⟨g0,g5,g8,g12,g11,h8⟩;obtain⟨R,hR⟩:∃R,R=zEE vars f es t:=⟨_,rfl⟩;obtain⟨lv,JI⟩:∃lv,lv=ρ 13:=⟨_,rfl⟩;rw[<-JI,<-hR] at h8;obtain⟨lps,JV,Jb⟩:=h8.lstR hO;have J3:lps.length=R.length:=by rw[<-JV];simp
 have Kx:R.length<=1024:=by have:=JD s a n;rw[List.take_of_length_le (by omega),<-JB,<-hR] at this;exact this
 simp[<-JI,Jb.vw.len];have JM:csT vars f es (t+1)=R.foldl zCp (csT vars f es t):=by rw[zBG,<-hR]
 have JO:(R.foldl zCp (csT vars f es t)).length<=1024:=by rw[<-JM];exact Nat.le_trans (zQO vars f es (show t+1<=n+1 by omega)) JP
 refine zF (n:=lps.length) (by omega) (fun k ρ w'=>ρ 0=vv/\ρ 5=.pointer (some ⟨fb,0,none⟩)/\ρ 8=ev/\ρ 12=.int .i64 ((n:Int)-1-(t:Nat))/\ρ 96=lv/\CsS (WnO o) w (ρ 11) ((R.take k).foldl zCp (csT vars f es t)) lv R X w') (by simp) (by simp)
  ⟨by simp[g0],by simp[g5],by simp[g8],by simp[g12],by simp,by simpa[g11] using h8⟩ (by decide) (fun _ _ _ _ h=>by simpa using h) (fun _ _ _ _ h=>by simpa using h) ?_ ?_
 rotate_left
 ·clear g0 g5 g8 g12 g11 Jb JI h8;rintro ρ w9 ⟨g0,g5,g8,g12,Jd,h9⟩;rw[J3,List.take_length,<-JM] at h9;have e3:IntKind.i64.wrap ((n:Int)-1-(t:Int)-1)=(n:Int)-1-((t+1:Nat):Int):=by rw[zH (by omega) (by omega)];omega
  simp[g0,g5,g8,g12,e3];exact⟨n+1-(t+1),by omega,t+1,by omega,by omega,_,_,h9⟩
 clear g0 g5 g8 g12 g11 Jb JI h8;rintro k ρ w9 hk JL JK ⟨g0,g5,g8,g12,Jd,h9⟩;obtain⟨cv,Jm⟩:∃cv,cv=ρ 11:=⟨_,rfl⟩;obtain⟨C,hC⟩:∃C,C=(R.take k).foldl zCp (csT vars f es t):=⟨_,rfl⟩;rw[<-Jm,<-hC] at h9;obtain⟨z,hz⟩:∃z,R[k]? = some z:=⟨_,List.getElem?_eq_getElem (by omega)⟩;have JC:=zAu zCp R k z hz (csT vars f es t);rw[<-hC] at JC;have Ky:C.length<=1024:=by rw[zDk zCp R k,<-hC] at JO;exact Nat.le_trans (zG9 _ _) JO
 obtain⟨lps',Ja,JE⟩:=h9.lstR hO;have Kb:lps'.length=R.length:=by rw[<-Ja];simp
 obtain⟨p,hp⟩:∃p,lps'[k]? = some p:=⟨_,List.getElem?_eq_getElem (by omega)⟩;have KH:p.2=z:=by
  have:(lps'.map (·.2))[k]? = some p.2:=by rw[List.getElem?_map,hp];rfl
  rw[Ja,hz] at this;exact(Option.some.inj this).symm
 have Jy:=List.mem_of_getElem? hp;have ek:w9.cell? (lv.adr.add k)=some p.1.1:=by simpa using JE.vw.at_ zT hp (o:=0) (u:=p.1.1) rfl
 have Ke:(k:Int)<lps'.length:=by omega
 have zo:=p.1.2;have zc:=(JE.row p Jy).c1;obtain⟨zb,Jf⟩:∃b,b=w9.heap.size:=⟨_,rfl⟩;simp(disch:=omega)[g0,g5,g8,g12,Jd,JL,JK,JE.vw.idx,ek,<-Jf,zc];refine h9.box JF Jf (by simp) (by simp[zo]) fun J7 JW J8=>?_;have JT:CsS (WnO o) w cv C lv R (zC (zL zb (.cells #[p.1.1] 23 (0,0))) X) J7:=by simpa using JW
 have oz:=JT.x.obj;obtain⟨ops,KI,KY⟩:=JT.outR hO;have KO:Vw J7 p.1.1 fcE z:=by rw[<-KH];exact(JE.row p Jy).kp0 J8
 have Kz:ops.length=C.length:=by rw[<-KI];simp
 have Kk:ceB ops z=decide (z∈C):=by rw[zWW,KI]
 simp[<-Jm,<-Jf];refine zG (zFn cv p.1.1 zb ops z KY KO oz (by omega) (by rw[<-KH];exact JE.sh p Jy)) ?_;rintro _ J6 ⟨rfl,Jq⟩;have Jc:=JT.kp (Lcl.obj.star JF) Jq;have ek11:=(JE.kp (J8.trans Jq)).vw.at_ zT hp (o:=0) (u:=p.1.1) rfl;rw[Kk];by_cases Jg:z∈C
 ·have e1:zCp C z=C:=by unfold zCp;rw[if_pos Jg]
  rw[e1] at JC;simp[Jg,g0,g5,g8,g12,Jd,JL,JK,<-Jm,JC];exact Jc.unbox
 ·have e1:zCp C z=C++[z]:=by unfold zCp;rw[if_neg Jg]
  rw[e1] at JC;obtain⟨zv,J9,_,Kl⟩:=Jc.add (KV:=_) (ty:=74) hO (Lcl.obj.star JF) hz (by omega);have ezv:zv=p.1.1:=by simp at ek11;rw[ek11] at J9;exact(Option.some.inj J9).symm
  subst ezv;have oz11:=Jq.blk oz (by simp);simp[Jg,g0,g5,g8,g12,Jd,JL,JK,<-Jm,<-Jf,zA oz11,zW,zc];refine Kl fun v' Ks Jp=>?_;simp[g0,g5,g8,g12,Jd,JL,JK,JC];exact Jp.unbox
end
section
open Go Go.W Go.Tk Go.Rx
theorem At.tr{w w1 w2:World}{A:Asr}(k:Kp [] w w1)(t:At w1 [] A w2):At w [] A w2:=by
 obtain⟨F1,h,hs⟩:=t.ex;exact⟨⟨F1,h,fun x hx=>.inr (by rcases hs x hx with h1|h1;cases h1;exact Nat.le_trans k.size h1)⟩,k.trans t.kp⟩
def rgP(vars:List Nat)(o:No)(p:List Go.Tk.Fc):List (List Go.Tk.Fc):=p.foldl (fun l f=>jnL l (csL vars f o.effs)) [o.pre]
abbrev Tb:=zP×List Rw
def PtS(o:No)(w:World)(av:Value)(tabs:List Tb)(done:List Tb)(X:Asr)(w':World):Prop :=
 ∃pool:List Rw,(∀q∈done,∀r∈q.2,(r∈pool\/WnO o r)/\r.2.length<=1000)/\At w [] (zC (zM av 74 1 sv1 tabs) (zC (zZ sv1 done) (zC (zZ fcE pool) X))) w'
theorem PtS.kp{o:No}{w w1 w2:World}{av:Value}{tabs done:List Tb}{X:Asr}(hX:Lcl X)(h:PtS o w av tabs done X w1)(k:Kp [] w1 w2):PtS o w av tabs done X w2:=by
 obtain⟨pool,a,e⟩:=h;exact⟨pool,a,e.kp0 (Lcl.own.star (Lcl.vws.star (Lcl.vws.star hX))) k⟩
theorem PtS.kw{o:No}{w w1:World}{av:Value}{tabs done:List Tb}{X:Asr}(h:PtS o w av tabs done X w1):Kp [] w w1:=by
 obtain⟨pool,a,e⟩:=h;exact e.kp
theorem PtS.x{o:No}{w w1:World}{av:Value}{tabs done:List Tb}{X:Asr}(h:PtS o w av tabs done X w1):At w [] X w1:=by
 obtain⟨pool,a,e⟩:=h;exact e.drop.drop.drop
theorem PtS.own{o:No}{w w1:World}{av:Value}{tabs done:List Tb}{X:Asr}(h:PtS o w av tabs done X w1):Own w1 av 74 1 sv1 tabs:=by
 obtain⟨pool,a,e⟩:=h;exact At.own e
theorem PtS.row{o:No}{w w1:World}{av:Value}{tabs done:List Tb}{X:Asr}(ho:NoR w o)(h:PtS o w av tabs done X w1){q:Tb}(hq:q∈done):zIP w1 q.1.1 q.2:=by
 obtain⟨pool,a,e⟩:=h;refine⟨e.drop.vws hq,fun r hr=>?_,fun r hr=>by have:=(a q hq r hr).2;omega⟩;rcases(a q hq r hr).1 with h1|h1
 ·exact e.drop.drop.vws h1
 ·obtain⟨e',JA,e1,e2⟩:=h1;rw[e1,e2];exact(ho.cnd e' JA).kp0 e.kp
theorem PtS.box{o:No}{w w1:World}{av:Value}{tabs done:List Tb}{X:Asr}{KW:zw World}(hX:Lcl X)(h:PtS o w av tabs done X w1){z:Array Value}{E b:Nat}{cs:List Value}(hb:b=w1.heap.size)(hs:0+cs.length<=z.size)(h1:cs.all zAn=true)
  (H:∀w2,PtS o w av tabs done (zC (zL b (.cells (zBh z 0 cs) E (0,0))) X) w2->KW.run w2):@stJ (w1.alloc (.cells z E (0,0))) ⟨b,0,none⟩ cs KW:=by
 obtain⟨pool,a,e⟩:=h;have hL:Lcl (zC (zM av 74 1 sv1 tabs) (zC (zZ sv1 done) (zC (zZ fcE pool) X))):=Lcl.own.star (Lcl.vws.star (Lcl.vws.star hX));have e1:=e.alloc (.cells z E (0,0)) hL;rw[<-hb] at e1;exact e1.st hL hs h1 fun w2 h2=>H w2 ⟨pool,a,h2.tor4⟩
theorem PtS.unbox{o:No}{w w1:World}{av:Value}{tabs done:List Tb}{A X:Asr}(h:PtS o w av tabs done (zC A X) w1):PtS o w av tabs done X w1:=by
 obtain⟨pool,a,e⟩:=h;exact⟨pool,a,e.by (Imp.un (Imp.un (Imp.un Imp.dr)))⟩
theorem PtS.add{o:No}{w w1 w2:World}{av r:Value}{tabs done:List Tb}{X:Asr}{l:List (List Go.Tk.Fc)}{i:Nat}{KW:zw World}(hX:Lcl X)(h:PtS o w av tabs done X w1)(t:CrS o w1 r l w2)(hi:i<tabs.length)
  (H:∀w3 (q:Tb),q.1.1=r->q.2.map (·.2)=l->PtS o w av (tabs.set i q) (done++[q]) X w3->KW.run w3):zAn r=true/\@stJ w2 ⟨av.blk,i,none⟩ [r] KW:=by
 obtain⟨pool,a,e⟩:=h;obtain⟨ops,pool2,b,c,t⟩:=t;have ro:=t.own.o1;have hL:Lcl (zC (zM av 74 1 sv1 tabs) (zC (zZ sv1 done) (zC (zZ fcE pool) X))):=Lcl.own.star (Lcl.vws.star (Lcl.vws.star hX));have e3:At w [] (zC (zC (zM r 23 1 sv1 ops) (zZ fcE pool2)) (zC (zM av 74 1 sv1 tabs) (zC (zZ sv1 done) (zC (zZ fcE pool) X)))) w2:=by have t3:At w1 [] (zC (zM r 23 1 sv1 ops) (zZ fcE pool2)) w2:=t.by fun W F1 ⟨Fa,Fx,h1,⟨Fb,Fc,h2,h3,hd,e1⟩,JC,e⟩=>⟨Fa++Fb,⟨Fa,Fb,h1,h2,fun x hx hb=>JC x hx (by rw[e1];simp[hb]),rfl⟩,fun x hx=>by rw[e,e1];simp at hx ⊢;rcases hx with h|h<;>simp[h]⟩;obtain⟨F1,JD,hs⟩:=t3.ex;exact e.more hL t3.kp ⟨F1,JD,fun x hx=>by rcases hs x hx with h|h;cases h;exact h⟩
 have e4:At w [] (zC (zM r 23 1 sv1 ops) (zC (zZ fcE pool2) (zC (zM av 74 1 sv1 tabs) (zC (zZ sv1 done) (zC (zZ fcE pool) X))))) w2:=e3.assoc;have e5:At w [] (zC (zM av 74 1 sv1 tabs) (zC (VwA r sv1 ops) (zC (zZ fcE pool2) (zC (zZ sv1 done) (zC (zZ fcE pool) X))))) w2:=(e4.own_vw).rot3;have e6:=(e5.by (Imp.un (Imp.un Imp.sw))).by (Imp.un (zZ.add ro));have e7:=e6.by (Imp.un (Imp.un zZ.app));obtain⟨q,hq⟩:∃q:Tb,q=(⟨r,ro⟩,ops):=⟨_,rfl⟩;rw[<-hq] at e7;refine⟨ro,e7.store1 (Lcl.vws.star (Lcl.vws.star hX)) zT zB9 hi (x:=q) (by simp[sv1,hq]) fun w3 h3=>H w3 q (by rw[hq]) (by rw[hq];exact b) ⟨pool2++pool,fun q' JB r' JA=>?_,h3⟩⟩;rcases List.mem_append.1 JB with h|h
 ·have:=a q' h r' JA;exact⟨this.1.imp (fun h=>by simp[h]) id,this.2⟩
 ·simp at h;subst h;rw[hq] at JA;have:=c r' JA;exact⟨this.1.imp (fun h=>by simp[h]) id,this.2⟩
end
section
open Go Go.W Go.Tk Go.Rx
structure PreC(vars:List Nat)(o:No)(p:List Go.Tk.Fc):Prop where
 ch:∀f∈p,∀(s:List Go.Tk.Fc) (a b:Nat),(chL vars f.2 [s] (((esF o.effs f.1).drop a).take b)).length<=1024
 cs:∀f∈p,(csL vars f o.effs).length<=1024
 pr:∀i,(rgP vars o (p.take i)).length<=1024
theorem zN4{n:Nat}{vars:List Nat}{f:Go.Tk.Fc}{effs:List Nf}(hG:EsG n effs)(hf:f.1<n):∀z∈csL vars f effs,zBA n z:=by
 have JA:∀e∈esF effs f.1,e∈effs:=fun e he=>(List.mem_filter.1 he).1;have JB:∀t,∀z∈zEE vars f (esF effs f.1) t,zBA n z:=fun t=>by
  unfold zEE;split
  ·split
   ·rename_i e he;have JE:=JA e (List.mem_of_getElem? he);split
    ·exact zIA _ _ (fun e' JC=>hG.lt e' (JA e' (List.mem_of_mem_drop JC))) (fun z hz=>by simp at hz;subst hz;exact⟨hG.vb e JE,hG.lt e JE⟩)
    ·simp
   ·simp
  ·exact zIA _ _ (fun e' JC=>hG.lt e' (JA e' JC)) (fun z hz=>by simp at hz;subst hz;exact zGV hf)
 have JD:∀(l o:List (List Go.Tk.Fc)),(∀z∈l,zBA n z)->(∀z∈o,zBA n z)->∀z∈l.foldl zCp o,zBA n z:=by
  intro l
  induction l with
  |nil=>intro o _ h;exact h
  |cons x l ih=>intro o hl h;exact ih _ (fun z hz=>hl z (by simp[hz])) (zKm h (hl x (by simp)))
 have hT:∀t,∀z∈csT vars f (esF effs f.1) t,zBA n z:=by
  intro t
  induction t with
  |zero=>intro z hz;simp[csT] at hz
  |succ t ih=>rw[zBG];exact JD _ _ (JB t) ih
 exact hT _
theorem zEp{n:Nat}{vars:List Nat}{o:No}(hG:EsG n o.effs)(JA:zBA n o.pre){p:List Go.Tk.Fc}(hp:∀f∈p,f.1<n):∀z∈rgP vars o p,zBA n z:=by
 have:∀(p:List Go.Tk.Fc) (l:List (List Go.Tk.Fc)),(∀f∈p,f.1<n)->(∀z∈l,zBA n z)->∀z∈p.foldl (fun l f=>jnL l (csL vars f o.effs)) l,zBA n z:=by
  intro p
  induction p with
  |nil=>intro l _ h;exact h
  |cons f p ih=>intro l hf h;exact ih _ (fun g hg=>hf g (by simp[hg])) (zRG h (zN4 hG (hf f (by simp))))
 exact this p _ hp (by simpa using JA)
theorem zDI{vars:List Nat}{o:No}{p:List Go.Tk.Fc}{i:Nat}{f:Go.Tk.Fc}(h:p[i]? = some f):rgP vars o (p.take (i+1))=jnL (rgP vars o (p.take i)) (csL vars f o.effs) :=
 zAu (fun l f=>jnL l (csL vars f o.effs)) p i f h _
theorem zSr{w0 w1:World}{u:Value}{c:List Go.Tk.Fc}(h:At w0 [] (zC (zM u 100 2 fcE c) Emp) w1):At w0 [] (zC (LLA (.slice (some ⟨w1.heap.size,0,none⟩) 1 1) 23 fcE [c]) Emp) (w1.alloc (.cells #[u] 23)):=by
 have zo:=h.own.o1;obtain⟨p,hp⟩:∃p:Rw,p=(⟨u,zo⟩,c):=⟨_,rfl⟩;have t2:=h.lit (xs:=[p]) (enc:=sv1) (E:=23) (sz:=1) (cs:=#[u]) (m:=1) (Lcl.own.star .emp) (by simp[sv1,hp]) zT (by simp[maxLen]) rfl;have t3:=(t2.rot.own_vw);have t4:=zZ.nil (enc:=fcE) (Lcl.vw.star (Lcl.own.star .emp)) t3;have t5:=(t4.rot).by (zZ.add zo);exact LLA.cls (ps:=[p]) (by simp[hp]) ((t5.rot).by (Imp.un (by rw[hp];exact Imp.rfl)))
theorem zPW{w:World}(T:Nt)(hr:NtR w T)(hg:zAp T.raw=true)(hl:TkL T.raw)(i:Nat)(o:No)(ho:T.ops[i]? = some o)(pv:Value)(p:List Go.Tk.Fc)(hp:Vw w pv fcE p)(KG:p.length<=100)(J1:zAQ (T.vars.map iN) (p.map faN)=true)(JZ:∀f∈p,f.1<T.vars.length)
  (hG:EsG T.vars.length o.effs) (JH:zBA T.vars.length o.pre) (Jx:T.vars.length<=12) (JS:∀n∈T.vars,n<=64) (KC:o.effs.length<=64) (KH:T.ops.length<=100000) (hC:PreC T.vars o p) :
  Calls Tryz.prog 88 [ntV T,.int .i64 (i:Nat),pv].toArray w fun e w'=>∃r,e=.returned (.tuple #[r,.nilIface])/\At w [] (zC (LLA r 23 fcE (rgP T.vars o p)) Emp) w':=by
 refine enter Tryz.func88 mixed low88 (Nat.le_of_ble_eq_true rfl) ?_;simp only[L88];obtain⟨tb,JT⟩:∃b,b=w.heap.size:=⟨_,rfl⟩;obtain⟨w1,Jj⟩:∃w1,w1=w.alloc (tkO T.raw):=⟨_,rfl⟩;have h1:At w [] (zC (zL tb (tkO T.raw)) Emp) w1:=by rw[JT,Jj];exact(At.start rfl:At w [] Emp w).alloc _ .emp
 have JR:w.alloc (.cells #[T.vv.1,T.nv.1,T.gv.1,T.ov.1] 26 (0,0))=w1:=by rw[Jj];rfl
 have JI:Lcl (zC (zL tb (tkO T.raw)) Emp):=Lcl.obj.star .emp;have rt1:=zEk h1.obj;have JB:zLw T.raw=none:=(zKc T.raw).2 hg;have Ja:=List.mem_of_getElem? ho;simp[ntV,<-JT,JR];have rt1':zK w1 ⟨tb,0,none⟩ 0 4=some [T.vv.1,T.nv.1,T.gv.1,T.ov.1]:=rt1;simp[rt1'];refine zG (zEZ T.raw (NtR.raw.2 (hr.kp h1.kp)) hl) ?_;rintro _ w2 ⟨rfl,k2⟩;have h2:=h1.kp0 JI k2;have Jv:w2.heap[tb]? = some (.cells #[T.vv.1,T.nv.1,T.gv.1,T.ov.1] 26 (0,0)):=h2.obj;have Jn:=hr.kp h2.kp;have KI:i<T.ops.length:=(List.getElem?_eq_some_iff.1 ho).1;have J9:¬(i:Int)<0:=by omega
 have J8:¬(T.ops.length:Int)<=i:=by omega
 have J7:¬T.ops.length<=i:=by omega
 simp[JB,zLg,J9,zA Jv,Jn.ops.len,J8,J7];refine zG (zBL T.vv.1 pv (T.vars.map iN) (p.map faN) (zKu.2 Jn.vars) (zGM.2 (hp.kp0 h2.kp)) (by simp;omega)) ?_;rintro _ w3 ⟨rfl,k3⟩;have h3:=h2.kp0 JI k3;have Ju:w3.heap[tb]? = some (.cells #[T.vv.1,T.nv.1,T.gv.1,T.ov.1] 26 (0,0)):=h3.obj;have Jm:=hr.kp h3.kp;have eo:=Jm.ops.cells zBv ho;simp only[noE] at eo;have KJ:(i:Int)<T.ops.length:=by omega
 obtain⟨ob,Jb⟩:∃b,b=w3.heap.size:=⟨_,rfl⟩;have Jg:At w [] (zC (zL ob (.cells #[.string ByteArray.empty,.int .i64 0,.slice none 0 0,.slice none 0 0] 41 (0,0))) (zC (zL tb (tkO T.raw)) Emp)) (w3.alloc (.cells #[.string ByteArray.empty,.int .i64 0,.slice none 0 0,.slice none 0 0] 41 (0,0))):=by rw[Jb];exact h3.alloc _ JI
 simp(disch:=omega)[J1,zA Ju,Jm.ops.idx,eo,<-Jb];refine Jg.st JI (by simp) (by simp[o.pv.2,o.ev.2]) fun w4 h4=>?_;have Jh:At w [] (zC (zL ob (opO o)) (zC (zL tb (tkO T.raw)) Emp)) w4:=by simpa[opO] using h4
 obtain⟨X,hX⟩:∃X,X=zC (zL ob (opO o)) (zC (zL tb (tkO T.raw)) Emp):=⟨_,rfl⟩;have JF:Lcl X:=by rw[hX];exact Lcl.obj.star JI
 rw[<-hX] at Jh;have obX:∀{w'},At w [] X w'->w'.heap[ob]? = some (.cells #[.string o.name,.int .i64 (o.cost:Nat),o.pv.1,o.ev.1] 41 (0,0)):=fun h=>by rw[hX] at h;exact h.obj
 have tbX:∀{w'},At w [] X w'->w'.heap[tb]? = some (.cells #[T.vv.1,T.nv.1,T.gv.1,T.ov.1] 26 (0,0)):=fun h=>by rw[hX] at h;exact h.drop.obj
 have J2:(p.length:Int)<=100:=by omega
 have JY:24*(p.length:Int)<=140737488355328:=by omega
 have JX:24*p.length<=140737488355328:=by omega
 have JW:(p.length:Int)<=9223372036854775807:=by omega
 have JV:p.length<=9223372036854775807:=by omega
 simp[(hp.kp0 Jh.kp).len,JY,JX,JW,JV];obtain⟨n,hn⟩:∃n,n=p.length:=⟨_,rfl⟩;obtain⟨x0,Jw⟩:∃x0:Tb,x0=(⟨.slice none 0 0,rfl⟩,[]):=⟨_,rfl⟩;have h5:=Jh.made (n:=n) (x:=x0) (z:=[.slice none 0 0]) (enc:=sv1) (E:=74) (sz:=1) JF (by rw[Jw];rfl) zT (by unfold maxLen;omega);obtain⟨av,Jr⟩:∃av,av=Value.slice (some ⟨w4.heap.size,0,none⟩) n n:=⟨_,rfl⟩;obtain⟨w5,JK⟩:∃w5,w5=w4.alloc (.cells (zW [.slice none 0 0] n).toArray 74):=⟨_,rfl⟩;rw[<-Jr,<-JK] at h5;rw[<-hn,<-Jr,<-JK];have i0:PtS o w av (([]:List Tb)++List.replicate (n-0) x0) [] X w5:=by have h6:=zZ.nil (enc:=(sv1:Rw->List Value)) (Lcl.vws.star (Lcl.own.star JF)) (zZ.nil (enc:=fcE) (Lcl.own.star JF) h5);exact⟨[],by simp,h6.rot3⟩
 refine zF (n:=n) (by omega) (fun k ρ w'=>ρ 3=.pointer (some ⟨tb,0,none⟩)/\ρ 9=.pointer (some ⟨ob,0,none⟩)/\ρ 10=av/\ρ 49=pv/\∃done:List Tb,done.length=k/\(done.map fun q=>q.2.map (·.2))=(p.take k).map (fun f=>csL T.vars f o.effs)/\PtS o w av (done++List.replicate (n-k) x0) done X w') (by simp) (by simp)
  ⟨by simp[<-JT],by simp[<-Jb],by simp,by simp,[],by simp,by simp,i0⟩ (by decide) (fun _ _ _ _ h=>by simpa using h) (fun _ _ _ _ h=>by simpa using h) ?_ ?_
 ·clear i0 h5 JK h4 Jg;rintro k ρ w6 hk JB JD ⟨g3,g9,g10,JQ,done,JO,JN,h6⟩;have Jo:=hp.kp0 h6.kw;obtain⟨f,hf⟩:∃f,p[k]? = some f:=⟨_,List.getElem?_eq_getElem (by omega)⟩;have JE:=List.mem_of_getElem? hf;have ef:=Jo.cells zf hf;simp only[fcE] at ef;have J6:(k:Int)<p.length:=by omega
  obtain⟨fb,Jd⟩:∃b,b=w6.heap.size:=⟨_,rfl⟩;simp(disch:=omega)[g3,g9,g10,JQ,JB,JD,Jo.idx,ef,<-Jd];refine h6.box JF Jd (by simp) (by simp) fun w7 h7=>?_;have Js:PtS o w av (done++List.replicate (n-k) x0) done (zC (zL fb (fcO f)) X) w7:=by simpa[fcO] using h7
  have of:=Js.x.obj;unfold fcO at of;have h8:=Js.unbox;have Jl:=hr.kp h8.kw;have cf:zK w7 ⟨fb,0,none⟩ 0 2=some [.int .i64 (f.1:Nat),.int .i64 (f.2:Nat)]:=by simp[zK,Addr.add,zA of]
  have co:zK w7 ⟨ob,0,none⟩ 0 4=some [.string o.name,.int .i64 (o.cost:Nat),o.pv.1,o.ev.1]:=by simp[zK,Addr.add,zA (obX h8.x)]
  simp[g3,g9,<-Jd,zA (tbX h8.x),cf,co];have Je:=zLj T.vv.1 T.vars o f Jl.vars (Jl.op o Ja) hG (JZ f JE) Jx JS KC (hC.ch f JE) (hC.cs f JE);refine zG (rv Je) ?_;rintro _ w8 ⟨r,rfl,h9⟩;have Jk:(done++List.replicate (n-k) x0).length=n:=by simp[JO];omega
  have Jc:=fun {K:zw Value}=>h8.own.idx (P:=Tryz.prog) (T:=241) (k:=.i64) (i:=(k:Int)) (K:=K) (by omega) (by rw[Jk];omega);have c9:r.cells=#[r]:=by obtain⟨_,_,_,_,t⟩:=h9;exact t.own.c1
  simp[g3,g9,g10,JQ,JB,JD,Jc,c9];refine(h8.add JF h9 (by rw[Jk];omega) fun Jt q KF J0 JP=>?_).2;have eset:(done++List.replicate (n-k) x0).set k q=(done++[q])++List.replicate (n-(k+1)) x0:=by rw[List.set_append_right _ _ (by omega),JO,Nat.sub_self,show n-k=(n-(k+1))+1 by omega,List.replicate_succ,List.set_cons_zero,List.append_assoc];rfl
  rw[eset] at JP;simp[g3,g9,g10,JQ,JB,JD];exact⟨done++[q],by simp[JO],by rw[List.map_append,JN,<-List.map_take,z6 hf,List.map_append];simp[J0],JP⟩
 clear i0 h5 JK h4 Jg;rintro ρ w6 ⟨g3,g9,g10,JQ,done,JO,JN,h6⟩;rw[Nat.sub_self,List.replicate_zero,List.append_nil] at h6;rw[hn,List.take_length] at JN;have J3:=(hr.kp h6.kw).op o Ja;simp[g9,zA (obX h6.x)];refine zG (zAS o.pv.1 o.pre J3.pre (by have:=JH.len;omega)) ?_;rintro u w7 t7;have h7:At w6 [] (zC (zM u 100 2 fcE o.pre) Emp) w7:=At.nw .emp (At.start rfl) t7;have h8:=zSr h7;have uc:=h7.own.c1;have k8:=h8.kp;simp[zW,uc,g10,h6.own.len];have i0:At w6 [] (zC (LLA (.slice (some ⟨w7.heap.size,0,none⟩) 1 1) 23 fcE (rgP T.vars o (p.take 0))) Emp) (w7.alloc (.cells #[u] 23)):=h8;have KD:done.length=p.length:=by omega
 refine zF (n:=done.length) (by omega) (fun k ρ w'=>ρ 76=av/\At w6 [] (zC (LLA (ρ 15) 23 fcE (rgP T.vars o (p.take k))) Emp) w') (by simp) (by simp)
  ⟨by simp,by simpa using i0⟩ (by decide) (fun _ _ _ _ h=>by simpa using h) (fun _ _ _ _ h=>by simpa using h) ?_ ?_
 rotate_left
 ·clear i0;rintro ρ w9 ⟨Ji,h9⟩;rw[KD,List.take_length] at h9;simp;exact At.tr h6.kw h9
 clear i0;rintro k ρ w9 hk JB JD ⟨Ji,h9⟩;obtain⟨lv,Jp⟩:∃lv,lv=ρ 15:=⟨_,rfl⟩;rw[<-Jp] at h9;have Jf:=h6.kp JF h9.kp;obtain⟨q,hq⟩:∃q,done[k]? = some q:=⟨_,List.getElem?_eq_getElem hk⟩;have Jy:=List.mem_of_getElem? hq;obtain⟨f,hf⟩:∃f,p[k]? = some f:=⟨_,List.getElem?_eq_getElem (by omega)⟩;have JE:=List.mem_of_getElem? hf;have JL:q.2.map (·.2)=csL T.vars f o.effs:=by
  have e1:(done.map fun q=>q.2.map (·.2))[k]? = some (q.2.map (·.2)):=by rw[List.getElem?_map,hq];rfl
  rw[JN,List.getElem?_map,hf] at e1;exact(Option.some.inj e1).symm
 have Jz:=Jf.row ((hr.op o Ja)) Jy;have ek:w9.cell? (av.adr.add k)=some q.1.1:=by simpa using Jf.own.vw.at_ zT hq (o:=0) (u:=q.1.1) rfl
 have J6:(k:Int)<done.length:=by omega
 have Jc:=fun {K:zw Value}=>Jf.own.vw.idx (P:=Tryz.prog) (T:=241) (k:=.i64) (i:=(k:Int)) (K:=K) (by omega) (by omega);obtain⟨lps,JM,Jq⟩:=LLA.opn h9;have JG:∀g∈p.take k,g.1<T.vars.length:=fun g hg=>JZ g (List.mem_of_mem_take hg);have JA:∀r∈lps,zBA T.vars.length r.2:=fun r hr=>zEp hG JH JG _ (by rw[<-JM];exact List.mem_map_of_mem hr);have JC:∀r∈q.2,zBA T.vars.length r.2:=fun r hr=>zN4 hG (JZ f JE) _ (by rw[<-JL];exact List.mem_map_of_mem hr);have J4:lps.length<=100000:=by
  have e1:lps.length=(rgP T.vars o (p.take k)).length:=by rw[<-JM];simp
  have:=hC.pr k;omega
 have JU:q.2.length<=100000:=by
  have e1:q.2.length=(csL T.vars f o.effs).length:=by rw[<-JL];simp
  have:=hC.cs f JE;omega
 have J5:zIP w9 lv lps:=⟨Jq.own.vw,fun r hr=>Jq.drop.vws hr,fun r hr=>by have:=(JA r hr).len;omega⟩;have hj:=zF8 lv q.1.1 lps q.2 J5 Jz (fun r hr=>⟨(JA r hr).v,by have:=(JA r hr).len;omega⟩) (fun r hr=>⟨(JC r hr).v,by have:=(JC r hr).len;omega⟩) J4 JU (fun r hr s hs z hz=>by have:=(zS5 (JA r hr) (JC s hs) hz).len;omega) (by rw[JM,JL,<-zDI hf];exact hC.pr (k+1));rw[JM,JL,<-zDI hf] at hj;simp(disch:=omega)[Ji,JB,JD,Jc,ek,<-Jp];refine zG (rv hj) ?_;rintro _ Jt ⟨r,rfl,JP⟩;simp[Ji,JB,JD];exact At.tr h9.kp JP
end
section
open Go Go.W Go.Tk Go.Rx
def SmH(x:List Nat)(l:List (List Go.Tk.Fc)):Prop:=∃z∈l,hdB x z=true
theorem zCJ{x:List Nat}{z:List Go.Tk.Fc}:hdB x z=true<->∀f∈z,x.getD f.1 0=f.2:=by
 unfold hdB;rw[List.all_eq_true];simp only[decide_eq_true_eq]
theorem hd_mk{x:List Nat}{a b:List Go.Tk.Fc}:hdB x (mkL (a++b))=true<->hdB x a=true/\hdB x b=true:=by
 simp only[zCJ,zCz,List.mem_append];exact⟨fun h=>⟨fun f hf=>h f (.inl hf),fun f hf=>h f (.inr hf)⟩,fun h f hf=>hf.elim (h.1 f) (h.2 f)⟩
theorem hd_vB{x:List Nat}{z:List Go.Tk.Fc}(hs:z.Pairwise fLt)(h:hdB x z=true):vB z=true:=by
 rw[zCJ] at h;refine zPR (List.Pairwise.imp_of_mem ?_ hs);intro a b ha hb JA;rcases JA with h1|⟨h1,h2⟩
 ·exact h1
 ·have:=h a ha;have:=h b hb;rw[<-h1] at this;omega
theorem zVs{x:List Nat}{a b:List Go.Tk.Fc}:(∃z,jn a b=some z/\hdB x z=true)<->hdB x a=true/\hdB x b=true:=by
 rw[<-hd_mk];unfold jn;constructor
 ·rintro⟨z,hz,hd⟩;split at hz
  ·cases hz;exact hd
  ·cases hz
 ·intro h;exact⟨_,if_pos (hd_vB (zGg _) h),h⟩
theorem zKk{o:List (List Go.Tk.Fc)}{z y:List Go.Tk.Fc}:y∈zCp o z<->y∈o\/y=z:=by
 unfold zCp;split
 ·rename_i h;exact⟨.inl,fun h2=>h2.elim id fun e=>e ▸ h⟩
 ·simp
theorem zNR{x:List Go.Tk.Fc}{y:List Go.Tk.Fc}:∀(b o:List (List Go.Tk.Fc)),y∈jnR x b o<->y∈o\/∃u∈b,jn x u=some y
 |[],o=>by simp[jnR]
 |u::b,o=>by
  show y∈jnR x b (jn1 x o u)<->_;rw[zNR b];unfold jn1;cases hj:jn x u with
  |none =>
   constructor
   ·rintro (h|⟨v,hv,e⟩)
    ·exact .inl h
    ·exact .inr ⟨v,by simp[hv],e⟩
   ·rintro (h|⟨v,hv,e⟩)
    ·exact .inl h
    ·rcases List.mem_cons.1 hv with rfl|hv
     ·rw[hj] at e;cases e
     ·exact .inr ⟨v,hv,e⟩
  |some z =>
   simp only[zKk];constructor
   ·rintro ((h|rfl)|⟨v,hv,e⟩)
    ·exact .inl h
    ·exact .inr ⟨u,by simp,hj⟩
    ·exact .inr ⟨v,by simp[hv],e⟩
   ·rintro (h|⟨v,hv,e⟩)
    ·exact .inl (.inl h)
    ·rcases List.mem_cons.1 hv with rfl|hv
     ·rw[hj] at e;cases e;exact .inl (.inr rfl)
     ·exact .inr ⟨v,hv,e⟩
theorem zNT{b:List (List Go.Tk.Fc)}{y:List Go.Tk.Fc}:∀(a o:List (List Go.Tk.Fc)),y∈a.foldl (fun o x=>jnR x b o) o<->y∈o\/∃x∈a,∃u∈b,jn x u=some y
 |[],o=>by simp
 |x::a,o=>by
  rw[List.foldl_cons,zNT a,zNR];constructor
  ·rintro ((h|h)|⟨x',JA,h⟩)
   ·exact .inl h
   ·exact .inr ⟨x,by simp,h⟩
   ·exact .inr ⟨x',by simp[JA],h⟩
  ·rintro (h|⟨x',JA,h⟩)
   ·exact .inl (.inl h)
   ·rcases List.mem_cons.1 JA with rfl|JA
    ·exact .inl (.inr h)
    ·exact .inr ⟨x',JA,h⟩
theorem zDi{a b:List (List Go.Tk.Fc)}{y:List Go.Tk.Fc}:y∈jnL a b<->∃x∈a,∃u∈b,jn x u=some y:=by
 unfold jnL;rw[zNT];simp
theorem zQv{x:List Nat}{a b:List (List Go.Tk.Fc)}:SmH x (jnL a b)<->SmH x a/\SmH x b:=by
 unfold SmH;constructor
 ·rintro⟨z,hz,hd⟩;obtain⟨y,hy,u,hu,hj⟩:=zDi.1 hz;have:=zVs.1 ⟨z,hj,hd⟩;exact⟨⟨y,hy,this.1⟩,⟨u,hu,this.2⟩⟩
 ·rintro⟨⟨y,hy,h1⟩,⟨u,hu,h2⟩⟩;obtain⟨z,hj,hd⟩:=zVs.2 ⟨h1,h2⟩;exact⟨z,zDi.2 ⟨y,hy,u,hu,hj⟩,hd⟩
structure StX(vars:List Nat)(x:List Nat):Prop where
 len:x.length=vars.length
 lt:∀i,i<vars.length->x.getD i 0<vars.getD i 0
theorem zUl{vars x:List Nat}{l:List Go.Tk.Fc}(hx:StX vars x)(hl:∀f∈l,f.1<vars.length):SmH x (zBV vars l)<->hdB x l=false:=by
 rw[<-Bool.not_eq_true,zCJ];unfold SmH zBV zHD;constructor
 ·rintro⟨z,hz,hd⟩ hall;obtain⟨f,hf,hz⟩:=List.mem_flatMap.1 hz;obtain⟨y,hy,rfl⟩:=List.mem_map.1 hz;have h1:=(List.mem_filter.1 hy).2;simp only[decide_eq_true_eq] at h1;have h2:=zCJ.1 hd (f.1,y) (by simp);have h3:=hall f hf;simp only at h2;omega
 ·intro h;have:∃f∈l,x.getD f.1 0≠f.2:=Classical.byContradiction fun hn=>h fun f hf=>Classical.byContradiction fun he=>hn ⟨f,hf,he⟩;obtain⟨f,hf,he⟩:=this;refine⟨[(f.1,x.getD f.1 0)],List.mem_flatMap.2 ⟨f,hf,List.mem_map.2 ⟨x.getD f.1 0,List.mem_filter.2 ⟨List.mem_range.2 (hx.lt _ (hl f hf)),by simpa using he⟩,rfl⟩⟩,?_⟩;rw[zCJ];intro g hg;simp at hg;subst hg;rfl
theorem zMP{vars x:List Nat}{y:Nat}(hx:StX vars x):∀(es:List Nf) (l:List (List Go.Tk.Fc)),(∀e∈es,∀f∈e.cnd,f.1<vars.length)->(SmH x (chL vars y l es)<->SmH x l/\∀e∈es,e.x≠y->hdB x e.cnd=false)
 |[],l,_=>by simp[chL]
 |e::es,l,he=>by
  show SmH x (chL vars y (if e.x=y then l else jnL l (zBV vars e.cnd)) es)<->_;rw[zMP hx es _ (fun e' JA=>he e' (by simp[JA]))];by_cases h:e.x=y
  ·rw[if_pos h];constructor
   ·rintro⟨a,b⟩;refine⟨a,fun e' JA hn=>?_⟩;rcases List.mem_cons.1 JA with rfl|JA
    ·exact absurd h hn
    ·exact b e' JA hn
   ·rintro⟨a,b⟩;exact⟨a,fun e' JA=>b e' (by simp[JA])⟩
  ·rw[if_neg h,zQv,zUl hx (he e (by simp))];constructor
   ·rintro⟨⟨a,c⟩,b⟩;refine⟨a,fun e' JA hn=>?_⟩;rcases List.mem_cons.1 JA with rfl|JA
    ·exact c
    ·exact b e' JA hn
   ·rintro⟨a,b⟩;exact⟨⟨a,b e (by simp) h⟩,fun e' JA=>b e' (by simp[JA])⟩
def zIq(x:List Nat)(es:List Nf)(c:Nat):Nat:=es.foldl (fun c e=>if hdB x e.cnd=true then e.x else c) c
theorem zHs{x:List Nat}{y:Nat}:∀(es:List Nf) (c:Nat),zIq x es c=y<->(c=y/\∀e∈es,e.x≠y->hdB x e.cnd=false)\/∃i e,es[i]? = some e/\e.x=y/\hdB x e.cnd=true/\∀e'∈es.drop (i+1),e'.x≠y->hdB x e'.cnd=false
 |[],c=>by simp[zIq]
 |e::es,c=>by
  show zIq x es (if hdB x e.cnd=true then e.x else c)=y<->_;rw[zHs es];constructor
  ·rintro (⟨h1,h2⟩|⟨i,e',h1,h2,h3,h4⟩)
   ·by_cases h:hdB x e.cnd=true
    ·rw[if_pos h] at h1;exact .inr ⟨0,e,rfl,h1,h,by simpa using h2⟩
    ·rw[if_neg h] at h1;refine .inl ⟨h1,fun e' JA hn=>?_⟩;rcases List.mem_cons.1 JA with rfl|JA
     ·simpa using h
     ·exact h2 e' JA hn
   ·exact .inr ⟨i+1,e',by simpa using h1,h2,h3,by simpa using h4⟩
  ·rintro (⟨h1,h2⟩|⟨i,e',h1,h2,h3,h4⟩)
   ·left;refine⟨?_,fun e' JA=>h2 e' (by simp[JA])⟩;by_cases h:hdB x e.cnd=true
    ·rw[if_pos h];exact Classical.byContradiction fun hn=>by have:=h2 e (by simp) hn;rw[this] at h;cases h
    ·rw[if_neg h];exact h1
   ·cases i with
    |zero =>simp at h1;subst h1;left;rw[if_pos h3];exact⟨h2,by simpa using h4⟩
    |succ i=>exact .inr ⟨i,e',by simpa using h1,h2,h3,by simpa using h4⟩
theorem zFH{vars:List Nat}{f:Go.Tk.Fc}{es:List Nf}{y:List Go.Tk.Fc}:∀t,y∈csT vars f es t<->∃s,s<t/\y∈zEE vars f es s
 |0=>by simp[csT]
 |t+1=>by
  have JA:∀(l o:List (List Go.Tk.Fc)),y∈l.foldl zCp o<->y∈o\/y∈l:=by
   intro l
   induction l with
   |nil=>intro o;simp
   |cons z l ih =>
    intro o;rw[List.foldl_cons,ih,zKk,List.mem_cons];constructor
    ·rintro ((h|h)|h)
     ·exact .inl h
     ·exact .inr (.inl h)
     ·exact .inr (.inr h)
    ·rintro (h|h|h)
     ·exact .inl (.inl h)
     ·exact .inl (.inr h)
     ·exact .inr h
  rw[zBG,JA,zFH t];constructor
  ·rintro (⟨s,hs,h⟩|h)
   ·exact⟨s,by omega,h⟩
   ·exact⟨t,by omega,h⟩
  ·rintro⟨s,hs,h⟩;by_cases e:s=t
   ·subst e;exact .inr h
   ·exact .inl ⟨s,by omega,h⟩
theorem zUn{vars x:List Nat}{f:Go.Tk.Fc}{es:List Nf}(hx:StX vars x)(he:∀e∈es,∀g∈e.cnd,g.1<vars.length):SmH x (csT vars f es (es.length+1))<->zIq x es (x.getD f.1 0)=f.2:=by
 have e0:SmH x (csT vars f es (es.length+1))<->∃s,s<es.length+1/\SmH x (zEE vars f es s):=by
  unfold SmH;constructor
  ·rintro⟨z,hz,hd⟩;obtain⟨s,hs,h⟩:=(zFH _).1 hz;exact⟨s,hs,z,h,hd⟩
  ·rintro⟨s,hs,z,h,hd⟩;exact⟨z,(zFH _).2 ⟨s,hs,h⟩,hd⟩
 rw[e0,zHs];have one:∀c:List Go.Tk.Fc,SmH x [c]<->hdB x c=true:=fun c=>by simp[SmH]
 have base:SmH x (zEE vars f es es.length)<->x.getD f.1 0=f.2/\∀e∈es,e.x≠f.2->hdB x e.cnd=false:=by unfold zEE;rw[if_neg (by omega),zMP hx es _ he,one,zCJ];simp
 have step:∀s,s<es.length->∀e,es[es.length-1-s]? = some e->(SmH x (zEE vars f es s)<->e.x=f.2/\hdB x e.cnd=true/\∀e'∈es.drop (es.length-1-s+1),e'.x≠f.2->hdB x e'.cnd=false):=fun s hs e hse=>by
  unfold zEE;rw[if_pos hs,hse];by_cases h:e.x=f.2
  ·simp only[if_pos h];rw[zMP hx _ _ (fun e' JA=>he e' (List.mem_of_mem_drop JA)),one,show es.length-s=es.length-1-s+1 by omega];exact⟨fun h2=>⟨h,h2⟩,fun h2=>h2.2⟩
  ·simp only[if_neg h];constructor
   ·rintro⟨z,hz,_⟩;cases hz
   ·rintro⟨h2,_⟩;exact absurd h2 h
 constructor
 ·rintro⟨s,hs,h⟩;by_cases e:s=es.length
  ·rw[e] at h;exact .inl (base.1 h)
  ·obtain⟨e',JA⟩:∃e',es[es.length-1-s]? = some e':=⟨_,List.getElem?_eq_getElem (by omega)⟩;have:=(step s (by omega) e' JA).1 h;exact .inr ⟨_,e',JA,this⟩
 ·rintro (h|⟨i,e,hi,h⟩)
  ·exact⟨es.length,by omega,base.2 h⟩
  ·have JB:=(List.getElem?_eq_some_iff.1 hi).1;have ei:es.length-1-(es.length-1-i)=i:=by omega
   refine⟨es.length-1-i,by omega,(step (es.length-1-i) (by omega) e (by rw[ei];exact hi)).2 ?_⟩;rw[ei];exact h
theorem zOh{o:No}{x:List Nat}{v:Nat}(hv:v<x.length):∀k,k<=o.effs.length->(apK o x k).getD v 0=zIq x (esF (o.effs.take k) v) (x.getD v 0)
 |0,_=>by simp[apK,esF,zIq]
 |k+1,hk=>by
  obtain⟨e,he⟩:∃e,o.effs[k]? = some e:=⟨_,List.getElem?_eq_getElem (by omega)⟩;have ih:=zOh (o:=o) hv k (by omega);have hl:=zDt o x k;rw[zB1 he,zKS he];unfold zIq at *
  rw[List.foldl_append,<-ih];by_cases h:hdB x e.cnd=true
  ·rw[if_pos h];by_cases JA:e.v=v
   ·rw[if_pos JA];simp[h,List.getD,JA,hl,hv]
   ·rw[if_neg JA];simp[List.getD,List.getElem?_set_ne JA]
  ·rw[if_neg h];by_cases JA:e.v=v
   ·rw[if_pos JA];simp[h]
   ·rw[if_neg JA];rfl
theorem zUo{vars x:List Nat}{f:Go.Tk.Fc}{o:No}(hx:StX vars x)(hG:EsG vars.length o.effs)(hf:f.1<vars.length):SmH x (csL vars f o.effs)<->(apS o x).getD f.1 0=f.2:=by
 unfold csL;rw[zUn (es:=esF o.effs f.1) hx (fun e he=>hG.lt e (List.mem_filter.1 he).1)];have:=zOh (o:=o) (x:=x) (v:=f.1) (by rw[hx.len];exact hf) o.effs.length (Nat.le_refl _);rw[List.take_length] at this;unfold apS;rw[this]
theorem zR8{vars x:List Nat}{o:No}(hx:StX vars x)(hG:EsG vars.length o.effs){p:List Go.Tk.Fc}(hp:∀f∈p,f.1<vars.length):SmH x (rgP vars o p)<->hdB x o.pre=true/\hdB (apS o x) p=true:=by
 have main:∀(p:List Go.Tk.Fc) (l:List (List Go.Tk.Fc)),(∀f∈p,f.1<vars.length)->(SmH x (p.foldl (fun l f=>jnL l (csL vars f o.effs)) l)<->SmH x l/\∀f∈p,(apS o x).getD f.1 0=f.2):=by
  intro p
  induction p with
  |nil=>intro l _;simp
  |cons f p ih =>
   intro l hf;rw[List.foldl_cons,ih _ (fun g hg=>hf g (by simp[hg])),zQv,zUo hx hG (hf f (by simp))];constructor
   ·rintro⟨⟨a,b⟩,c⟩;refine⟨a,fun g hg=>?_⟩;rcases List.mem_cons.1 hg with rfl|hg
    ·exact b
    ·exact c g hg
   ·rintro⟨a,b⟩;exact⟨⟨a,b f (by simp)⟩,fun g hg=>b g (by simp[hg])⟩
 unfold rgP;rw[main p _ hp,zCJ (z:=p)];simp[SmH]
end
section
open Go Go.W Go.Tk Go.Rx
theorem zLE{α:Type}[Inhabited α]{enc:α->Value}{cur:Array Value}{F:List Value}{G:Array α}{junk:List Value}(hc:cur.toList=F++junk)(hy:G.size=F.length):(Go.Sort.putCells enc 0 G cur).toList=G.toList.map enc++junk:=by
 unfold Go.Sort.putCells;rw[Array.toList_mapIdx,hc];apply List.ext_getElem?;intro i;rw[List.getElem?_mapIdx];by_cases hi:i<G.size
 ·rw[List.getElem?_append_left (by omega),List.getElem?_append_left (by simpa using hi),List.getElem?_map,List.getElem?_eq_getElem (show i<F.length by omega),List.getElem?_eq_getElem (show i<G.toList.length by simpa using hi)];simp[hi,getElem!_pos G i hi]
 ·rw[List.getElem?_append_right (by omega),List.getElem?_append_right (by simp;omega)];simp only[List.length_map,Array.length_toList,hy];cases junk[i-F.length]? with
  |none=>rfl
  |some v =>simp;intro h;omega
theorem zUf{α:Type}(g:α->List Go.Tk.Fc):Go.Sort.SWO (Go.Proofs.ltOf fun x y:α=>cL (g x) (g y)) where
 irrefl x:=by
  unfold Go.Proofs.ltOf;rcases zCc (g x) (g x) with⟨h,_⟩|⟨_,e⟩|⟨h,_⟩
  ·exact absurd h zC0
  ·simp[e]
  ·exact absurd h zC0
 trans x y z h1 h2:=by
  unfold Go.Proofs.ltOf at *
  simp only[decide_eq_true_eq,zGJ] at *
  exact zCH h1 h2
 ntrans x y z h1 h2:=by
  unfold Go.Proofs.ltOf at *
  simp only[decide_eq_false_iff_not,zGJ] at *
  intro h3;rcases zCc (g x) (g y) with⟨a,_⟩|⟨a,_⟩|⟨a,_⟩
  ·exact h1 a
  ·rw[<-a] at h2;exact h2 h3
  ·exact h2 (zCH a h3)
theorem zK5{w w1:World}{F:List Nat}{B:Asr}{v:Value}{ls:List (List Go.Tk.Fc)}(hB:Lcl B)(h:At w F (zC (LLA v 23 fcE ls) B) w1)(hl:ls.length<=1000000)(hr:∀l∈ls,l.length<=1000000) :
  Calls Tryz.prog 89 [v,.func (.func 90) #[] #[]].toArray w1 fun e w'=>∃x,e=.returned x/\x=.tuple #[]/\∃ls',ls'.Perm ls/\At w F (zC (LLA v 23 fcE ls') B) w':=by
 obtain⟨ps,JE,h1⟩:=LLA.opn h;have JP:ps.length=ls.length:=by rw[<-JE];simp
 by_cases h0:ps=[]
 ·have ho:=h1.own;have hv:∃p cap,v=.slice p 0 cap:=by
   rcases ho with⟨e,_⟩|⟨g,cap,cur,junk,e,_⟩
   ·exact⟨_,_,e⟩
   ·rw[h0] at e;exact⟨_,_,e⟩
  obtain⟨p,cap,rfl⟩:=hv;refine Calls.mono (AnyF.slices_SortFunc_none { Tryz.sort89 with } p cap _ w1) ?_;rintro e w' ⟨rfl,rfl⟩;exact⟨_,rfl,rfl,ls,List.Perm.refl _,h⟩
 obtain⟨p0,JN⟩:∃p0,p0∈ps:=by
  cases ps with
  |nil=>exact absurd rfl h0
  |cons x l=>exact⟨x,by simp⟩
 haveI:Inhabited {p:Rw // p∈ps}:=⟨⟨p0,JN⟩⟩
 have JQ:0<ps.length:=by cases ps with|nil=>exact absurd rfl h0|cons x l=>simp
 rcases h1.own with⟨rfl,e⟩|⟨g,cap,cur,junk,rfl,hb,hc,hj,JR,hm⟩
 ·exact absurd e h0
 rw[zEa] at hc;obtain⟨d,hd⟩:∃d:Array {p:Rw // p∈ps},d=ps.attach.toArray:=⟨_,rfl⟩;have JM:d.size=ps.length:=by rw[hd];simp
 have hH:Go.Sort.Holds (fun x:{p:Rw // p∈ps}=>x.1.1.1) w1 g 0 d:=by
  intro j hj;have JL:j<ps.length:=by omega
  constructor
  ·rw[Nat.zero_add,zA hb,<-Array.getElem?_toList,hc,List.getElem?_append_left (by simpa using JL),List.getElem?_map,List.getElem?_eq_getElem JL,getElem!_pos d j hj];simp[hd]
  ·simp[World.frozen?,hb]
 have JC:∀p∈ps,Vw w1 p.1.1 fcE p.2/\∀x∈p.1.1.own,x∉[g]:=fun p hp=>by obtain⟨F',⟨Fa,Fx,⟨_,rfl⟩,⟨Fb,Fc,⟨hv,_,rfl⟩,_,_,rfl⟩,JO,_⟩,_⟩:=h1.ex;refine⟨hv p hp,fun x hx hg=>?_⟩;simp at hg;subst hg;exact JO x (by simp) (by simp only[List.mem_append,List.mem_flatMap];exact .inl ⟨p,hp,hx⟩)
 have JG:Go.Proofs.CmpLays1 Tryz.prog 90 #[] (fun x:{p:Rw // p∈ps}=>x.1.1.1) (fun x y=>cL x.1.2 y.1.2) g 0 d.size w1:=fun m os dk hs x y=>by have k:Kp [g] w1 (Go.Proofs.sortWorld (fun x:{p:Rw // p∈ps}=>x.1.1.1) w1 g 0 m dk os):=zNN rfl;have hx:=JC x.1 x.2;have hy:=JC y.1 y.2;have lx:x.1.2.length<=1000000:=hr _ (by rw[<-JE];exact List.mem_map_of_mem x.2);have ly:y.1.2.length<=1000000:=hr _ (by rw[<-JE];exact List.mem_map_of_mem y.2);refine Calls.mono (zSO x.1.1.1 y.1.1.1 x.1.2 y.1.2 (hx.1.kp k hx.2) (hy.1.kp k hy.2) lx ly) ?_;rintro e w' ⟨v,rfl,rfl,k'⟩;exact⟨rfl,k'.grow⟩
 have eg:∀args w,(callFunc 90 args).run Tryz.prog w=.ok (.enter 90 args) w:=Go.Proofs.enters_of Tryz.func90 (by kernel_rfl) rfl;have JD:=Any.slices_SortFunc Tryz.sort89 (fun x:{p:Rw // p∈ps}=>x.1.1.1) (fun x=>by have:=x.1.1.2;cases hx:x.1.1.1<;>simp_all [zAn,Value.oneCell']) (fun x y=>cL x.1.2 y.1.2) (zUf fun x:{p:Rw // p∈ps}=>x.1.2) 90 #[] g 0 cap d w1 eg JG hH (zS hb) (by omega);rw[JM] at JD;refine Calls.mono JD ?_;rintro e w' ⟨rfl,d',n,os,hp,hs,hw⟩;rw[<-JM] at hp;have JA:=zEq hp;have JB:d'.size=ps.length:=by have:=JA.length_eq;simp at this;omega
 have JH:w'=Go.Sort.grow (Go.Sort.mapBlock (Go.Sort.ahead w1 n) g (Go.Sort.putCells (fun x:{p:Rw // p∈ps}=>x.1.1.1) 0 d')) os:=hw;obtain⟨qs,JF⟩:∃qs:List Rw,qs=d'.toList.map (·.1):=⟨_,rfl⟩;have JK:qs.length=ps.length:=by rw[JF];simpa using JB
 have JI:qs.Perm ps:=by have:=JA.map (·.1);rw[hd] at this;simp at this;rw[JF];rwa[List.attach_map_subtype_val] at this
 have o2:Own w' (.slice (some ⟨g,0,none⟩) ps.length cap) 23 1 sv1 qs:=by refine .inr ⟨g,cap,_,junk,by rw[JK],zOY hb JH,?_,by rw[JK];exact hj,by omega,hm⟩;rw[zLE hc (by simp[JB]),zEa,JF,List.map_map];rfl
 have h3:=At.ownStep (Lcl.vws.star hB) h1 (zNN JH) o2 fun x hx=>.inl hx;have h4:=h3.by (Imp.un (zZ.sub (qs:=qs) fun p hp=>JI.mem_iff.1 hp));exact⟨_,rfl,rfl,qs.map (·.2),by rw[<-JE];exact JI.map _,LLA.cls rfl h4⟩
end
section
open Go Go.W Go.Tk Go.Rx
theorem zIl(l:List (List Go.Tk.Fc)){k:Nat}(hk:k<=l.length):∀z∈mnL l k,z∈l:=fun z hz=>by
 unfold mnL at hz;obtain⟨i,hi,rfl⟩:=List.mem_map.1 hz;have:=List.mem_range.1 (List.mem_filter.1 hi).1;rw[List.getD,List.getElem?_eq_getElem (by omega)];exact List.getElem_mem _
theorem zDv{w:World}(T:Nt)(hr:NtR w T)(hg:zAp T.raw=true)(hl:TkL T.raw)(i:Nat)(o:No)(ho:T.ops[i]? = some o)(pv:Value)(p:List Go.Tk.Fc)(hp:Vw w pv fcE p)(Ja:p.length<=100)(JZ:zAQ (T.vars.map iN) (p.map faN)=true)(JT:∀f∈p,f.1<T.vars.length)
  (hG:EsG T.vars.length o.effs) (JC:zBA T.vars.length o.pre) (JX:T.vars.length<=12) (JF:∀n∈T.vars,n<=64) (Jf:o.effs.length<=64) (Jb:T.ops.length<=100000) (hC:PreC T.vars o p) :
  Calls Tryz.prog 34 [ntV T,.int .i64 (i:Nat),pv].toArray w fun e w'=>∃r,e=.returned (.tuple #[r,.nilIface])/\∃ls:List (List Go.Tk.Fc),ls.Perm (mnL (rgP T.vars o p) (rgP T.vars o p).length)/\At w [] (zC (LLA r 23 fcE ls) Emp) w':=by
 refine enter Tryz.func34 mixed low34 (Nat.le_of_ble_eq_true rfl) ?_;simp only[L34];obtain⟨tb,JP⟩:∃b,b=w.heap.size:=⟨_,rfl⟩;obtain⟨w1,JO⟩:∃w1,w1=w.alloc (tkO T.raw):=⟨_,rfl⟩;have h1:At w [] (zC (zL tb (tkO T.raw)) Emp) w1:=by rw[JP,JO];exact(At.start rfl:At w [] Emp w).alloc _ .emp
 have JE:w.alloc (.cells #[T.vv.1,T.nv.1,T.gv.1,T.ov.1] 26 (0,0))=w1:=by rw[JO];rfl
 have rt1:zK w1 ⟨tb,0,none⟩ 0 4=some [T.vv.1,T.nv.1,T.gv.1,T.ov.1]:=zEk h1.obj;simp[ntV,<-JP,JE,rt1];have JB:=zPW T (hr.kp h1.kp) hg hl i o ho pv p (hp.kp0 h1.kp) Ja JZ JT hG JC JX JF Jf Jb hC;refine zG (rv JB) ?_;rintro _ w2 ⟨r,rfl,h2⟩;obtain⟨l,JL⟩:∃l,l=rgP T.vars o p:=⟨_,rfl⟩;rw[<-JL] at h2 ⊢;have JU:∀z∈l,zBA T.vars.length z:=by rw[JL];exact zEp hG JC JT
 have Jp:l.length<=1024:=by rw[JL];have:=hC.pr p.length;rwa[List.take_length] at this
 obtain⟨ps,JI,h3⟩:=LLA.opn h2;have JH:ps.length=l.length:=by rw[<-JI];simp
 have JS:∀q∈ps,zBA T.vars.length q.2:=fun q hq=>JU _ (by rw[<-JI];exact List.mem_map_of_mem hq);have hR:zIP w2 r ps:=⟨h3.own.vw,fun q hq=>h3.drop.vws hq,fun q hq=>by have:=(JS q hq).len;omega⟩;simp;refine zG (zDy r ps hR (by omega) (fun q hq=>(JS q hq).v)) ?_;rintro u w4 h4;rw[JI,JH] at h4;have JW:=h1.kp.trans h2.kp;have h5:=At.tr JW h4;have JV:∀z∈mnL l l.length,zBA T.vars.length z:=fun z hz=>JU z (zIl l (Nat.le_refl _) z hz);have Jo:=zIm l l.length;simp;refine zG (zK5 .emp h5 (by omega) (fun z hz=>by have:=(JV z hz).len;omega)) ?_;rintro _ w6 ⟨rfl,ls,JA,h6⟩;have Jc:ls.length<=1024:=by have:=JA.length_eq;omega
 have Jd:∀z∈ls,zBA T.vars.length z:=fun z hz=>JV z (JA.mem_iff.1 hz);obtain⟨qs,JQ,h7⟩:=LLA.opn h6;have Jn:qs.length=ls.length:=by rw[<-JQ];simp
 simp[h7.own.len];refine zF (n:=qs.length) (by omega) (fun k ρ w'=>ρ 10=u/\At w [] (zC (LLA u 23 fcE ls) Emp) w') (by simp) (by simp)
  ⟨by simp,by simpa using h6⟩ (by decide) (fun _ _ _ _ h=>by simpa using h) (fun _ _ _ _ h=>by simpa using h) ?_ ?_
 rotate_left
 ·rintro ρ w8 ⟨g10,h8⟩;simp[g10];exact⟨ls,JA,h8⟩
 clear h6 JQ h7;rintro k ρ w8 hk JN JK ⟨g10,h8⟩;obtain⟨rs,JG,h9⟩:=LLA.opn h8;have Jm:rs.length=ls.length:=by rw[<-JG];simp
 obtain⟨q,hq⟩:∃q,rs[k]? = some q:=⟨_,List.getElem?_eq_getElem (by omega)⟩;have JR:=List.mem_of_getElem? hq;have ek:w8.cell? (u.adr.add k)=some q.1.1:=by simpa using h9.own.vw.at_ zT hq (o:=0) (u:=q.1.1) rfl
 have Jq:(k:Int)<rs.length:=by omega
 have Je:=fun {K:zw Value}=>h9.own.vw.idx (P:=Tryz.prog) (T:=74) (k:=.i64) (i:=(k:Int)) (K:=K) (by omega) (by omega);have JY:zBA T.vars.length q.2:=Jd _ (by rw[<-JG];exact List.mem_map_of_mem JR);simp(disch:=omega)[g10,JN,JK,Je,ek];refine zG (zAS q.1.1 q.2 (h9.drop.vws JR) (by have:=JY.len;omega)) ?_;rintro z Jl t10;have Jg:Lcl (zC (zM u 23 1 sv1 rs) (zC (zZ fcE rs) Emp)):=Lcl.own.star (Lcl.vws.star .emp);have JD:=At.nw Jg h9 t10;have zo:=JD.own.o1;have zc:=JD.own.c1;have JM:=fun {K:zw Value}=>JD.drop.own.idx (P:=Tryz.prog) (T:=74) (k:=.i64) (i:=(k:Int)) (K:=K) (by omega) (by omega);simp[g10,JN,JK,JM,zc];obtain⟨x,hx⟩:∃x:Rw,x=(⟨z,zo⟩,q.2):=⟨_,rfl⟩;refine(JD.rot).store1 (Lcl.own.star (Lcl.vws.star .emp)) zT zB9 (by omega) (x:=x) (by simp[sv1,hx]) fun Jk Jj=>?_;have Ji:=((Jj.rot.own_vw).rot).by (Imp.un (zZ.add zo));have Jh:=Ji.by (Imp.un (zZ.sub (qs:=rs.set k x) fun y hy=>by
  rcases List.mem_or_eq_of_mem_set hy with h|h
  ·exact List.mem_append_left _ h
  ·rw[h,hx];simp))
 have e1:(rs.set k x).map (·.2)=ls:=by
  rw[List.map_set,<-JG,hx];apply List.ext_getElem?;intro j;by_cases hj:k=j
  ·subst hj;rw[List.getElem?_set_self (by simp;omega),List.getElem?_map,hq];rfl
  ·rw[List.getElem?_set_ne hj]
 simp[g10,JN,JK];exact LLA.cls e1 Jh
end
section
open Go Go.W Go.Tk Go.Rx
theorem zI5{a:List Go.Tk.Fc}{v y:Nat}(h:fdF a v=(y:Nat)):(v,y)∈a:=by
 unfold fdF at h;split at h
 ·rename_i f hf;have h1:=List.find?_some hf;have h2:=List.mem_of_find?_eq_some hf;simp only[decide_eq_true_eq] at h1;have:f=(v,y):=Prod.ext h1 (by simp only;omega);rw[<-this];exact h2
 ·omega
theorem zBb{a:List Go.Tk.Fc}(hv:vB a=true){f:Go.Tk.Fc}(h:f∈a):fdF a f.1=(f.2:Nat):=by
 unfold fdF;cases hq:a.find? fun g=>decide (g.1=f.1) with
 |none =>have:=List.find?_eq_none.1 hq f h;simp at this
 |some g =>
  have h1:=List.find?_some hq;have h2:=List.mem_of_find?_eq_some hq;simp only[decide_eq_true_eq] at h1;have hp:=zHJ hv;have:g=f:=by
   obtain⟨i,hi,ei⟩:=List.getElem_of_mem h2;obtain⟨j,hj,ej⟩:=List.getElem_of_mem h;rcases Nat.lt_trichotomy i j with JA|JA|JA
   ·have:=List.pairwise_iff_getElem.1 hp i j hi hj JA;rw[ei,ej] at this;omega
   ·subst JA;rw[<-ei,<-ej]
   ·have:=List.pairwise_iff_getElem.1 hp j i hj hi JA;rw[ei,ej] at this;omega
  rw[this]
theorem zCa{a b:List Go.Tk.Fc}(hv:vB a=true):zLc a b=true<->∀f∈b,f∈a:=by
 unfold zLc;rw[List.all_eq_true];simp only[decide_eq_true_eq];exact⟨fun h f hf=>zI5 (h f hf),fun h f hf=>zBb hv (h f hf)⟩
theorem zO5{a:List Go.Tk.Fc}(hv:vB a=true):a.Nodup:=(zHJ hv).imp fun {x y} h e=>by subst e;omega
theorem zQN{a b:List Go.Tk.Fc}(ha:vB a=true)(hb:vB b=true)(h:zLc a b=true):b.length<=a.length:=(zO5 hb).length_le_of_subset ((zCa ha).1 h)
theorem mn_ex{l:List (List Go.Tk.Fc)}(hl:∀z∈l,vB z=true):∀(m i:Nat),i<l.length->(l.getD i []).length*l.length+i=m->∃j,j<l.length/\kpB l j l.length=true/\zLc (l.getD i []) (l.getD j [])=true:=by
 intro m
 induction m using Nat.strongRecOn with
 |_ m ih =>
  intro i hi hm;have get:∀j,j<l.length->l.getD j []∈l:=fun j hj=>by rw[List.getD,List.getElem?_eq_getElem hj];exact List.getElem_mem _
  by_cases hk:kpB l i l.length=true
  ·exact⟨i,hi,hk,(zCa (hl _ (get i hi))).2 fun f hf=>hf⟩
  ·have:∃j,j<l.length/\dmB l i j=true:=Classical.byContradiction fun hn=>hk (by unfold kpB;rw[List.all_eq_true];intro j hj;have:dmB l i j≠true:=fun h=>hn ⟨j,List.mem_range.1 hj,h⟩;simpa using this);obtain⟨j,hj,hd⟩:=this;unfold dmB at hd;simp only[Bool.and_eq_true,Bool.or_eq_true,decide_eq_true_eq] at hd;obtain⟨JG,hc,JB⟩:=hd;have JA:=zQN (hl _ (get i hi)) (hl _ (get j hj)) hc;have JC:(l.getD j []).length*l.length+j<m:=by
    rw[<-hm];rcases JB with h|h
    ·have:=Nat.mul_le_mul_right l.length (show(l.getD j []).length+1<=(l.getD i []).length from h);rw[Nat.add_mul,Nat.one_mul] at this;omega
    ·have:=Nat.mul_le_mul_right l.length JA;omega
   obtain⟨k,JF,JE,JD⟩:=ih _ JC j hj rfl;exact⟨k,JF,JE,(zCa (hl _ (get i hi))).2 fun f hf=>(zCa (hl _ (get i hi))).1 hc f ((zCa (hl _ (get j hj))).1 JD f hf)⟩
theorem zUm{x:List Nat}{l:List (List Go.Tk.Fc)}(hl:∀z∈l,vB z=true):SmH x (mnL l l.length)<->SmH x l:=by
 unfold SmH;constructor
 ·rintro⟨z,hz,hd⟩;exact⟨z,zIl l (Nat.le_refl _) z hz,hd⟩
 ·rintro⟨z,hz,hd⟩;obtain⟨i,hi,ei⟩:=List.getElem_of_mem hz;have eg:l.getD i []=z:=by rw[List.getD,List.getElem?_eq_getElem hi,ei];rfl
  obtain⟨j,hj,hk,hc⟩:=mn_ex hl _ i hi rfl;refine⟨l.getD j [],?_,?_⟩
  ·unfold mnL;exact List.mem_map.2 ⟨j,List.mem_filter.2 ⟨List.mem_range.2 hj,hk⟩,rfl⟩
  ·rw[eg] at hc;rw[zCJ] at hd ⊢;exact fun f hf=>hd f ((zCa (hl z hz)).1 hc f hf)
theorem zR9{x:List Nat}{l m:List (List Go.Tk.Fc)}(h:l.Perm m):SmH x l<->SmH x m:=by
 unfold SmH;exact⟨fun⟨z,hz,hd⟩=>⟨z,h.mem_iff.1 hz,hd⟩,fun⟨z,hz,hd⟩=>⟨z,h.mem_iff.2 hz,hd⟩⟩
end
section
open Go Go.W Go.Tk Go.Rx
structure PkR(vars:List Nat)(x:Nat)(es:List Nf)(z0 z:List Go.Tk.Fc)(u:Nat->Go.Tk.Fc):Prop where
 sub:∀g∈z0,g∈z
 pk:∀(j:Nat) (e:Nf),es[j]? = some e->e.x≠x->u j∈z/\∃g∈e.cnd,(u j).1=g.1/\(u j).2≠g.2/\(u j).2<vars.getD g.1 0
 mem:∀g∈z,g∈z0\/∃(j:Nat) (e:Nf),es[j]? = some e/\e.x≠x/\g=u j
theorem zRD{a b z:List Go.Tk.Fc}(h:jn a b=some z)(g:Go.Tk.Fc):g∈z<->g∈a\/g∈b:=by
 unfold jn at h;split at h
 ·cases h;rw[zCz,List.mem_append]
 ·cases h
theorem zON{vars:List Nat}{x:Nat}{z:List Go.Tk.Fc}:∀(es:List Nf) (l:List (List Go.Tk.Fc)),z∈chL vars x l es->∃z0∈l,∃u,PkR vars x es z0 z u
 |[],l,h=>⟨z,h,fun _=>(0,0),fun _ h=>h,by simp,fun g hg=>.inl hg⟩
 |e::es,l,h=>by
  have h':z∈chL vars x (if e.x=x then l else jnL l (zBV vars e.cnd)) es:=h;obtain⟨z1,JB,u,hu⟩:=zON es _ h';by_cases hx:e.x=x
  ·rw[if_pos hx] at JB;refine⟨z1,JB,fun j=>u (j-1),hu.sub,fun j e' JA hn=>?_,fun g hg=>?_⟩
   ·cases j with
    |zero=>simp at JA;subst JA;exact absurd hx hn
    |succ j=>exact hu.pk j e' (by simpa using JA) hn
   ·rcases hu.mem g hg with h1|⟨j,e',h1,h2,h3⟩
    ·exact .inl h1
    ·exact .inr ⟨j+1,e',by simpa using h1,h2,by simpa using h3⟩
  ·rw[if_neg hx] at JB;obtain⟨z0,JD,s,hs,hj⟩:=zDi.1 JB;unfold zBV zHD at hs;obtain⟨g0,JF,hs⟩:=List.mem_flatMap.1 hs;obtain⟨y,hy,rfl⟩:=List.mem_map.1 hs;have JE:=List.mem_range.1 (List.mem_filter.1 hy).1;have JC:=(List.mem_filter.1 hy).2;simp only[decide_eq_true_eq] at JC;have hm:=zRD hj;refine⟨z0,JD,fun j=>if j=0 then(g0.1,y) else u (j-1),fun g hg=>hu.sub g ((hm g).2 (.inl hg)),fun j e' JA hn=>?_,fun g hg=>?_⟩
   ·cases j with
    |zero =>simp at JA;subst JA;exact⟨hu.sub _ ((hm _).2 (.inr (by simp))),g0,JF,rfl,JC,JE⟩
    |succ j=>exact hu.pk j e' (by simpa using JA) hn
   ·rcases hu.mem g hg with h1|⟨j,e',h1,h2,h3⟩
    ·rcases(hm g).1 h1 with h4|h4
     ·exact .inl h4
     ·simp at h4;exact .inr ⟨0,e,rfl,hx,by simp[h4]⟩
    ·exact .inr ⟨j+1,e',by simpa using h1,h2,by simpa using h3⟩
structure CsR(vars:List Nat)(f:Go.Tk.Fc)(es:List Nf)(z:List Go.Tk.Fc)(i:Nat)(u:Nat->Go.Tk.Fc):Prop where
 st:(i=0/\f∈z)\/∃e,i≠0/\es[i-1]? = some e/\e.x=f.2/\∀g∈e.cnd,g∈z
 pk:∀(j:Nat) (e:Nf),i<=j->es[j]? = some e->e.x≠f.2->u j∈z/\∃g∈e.cnd,(u j).1=g.1/\(u j).2≠g.2/\(u j).2<vars.getD g.1 0
 mem:∀g∈z,(i=0/\g=f)\/(∃e,i≠0/\es[i-1]? = some e/\g∈e.cnd)\/∃(j:Nat) (e:Nf),i<=j/\es[j]? = some e/\e.x≠f.2/\g=u j
theorem zTS{vars:List Nat}{f:Go.Tk.Fc}{effs:List Nf}{z:List Go.Tk.Fc}(h:z∈csL vars f effs):∃i u,CsR vars f (esF effs f.1) z i u:=by
 unfold csL at h;obtain⟨t,ht,h⟩:=(zFH _).1 h;obtain⟨es,JD⟩:∃es,es=esF effs f.1:=⟨_,rfl⟩;rw[<-JD] at h ht ⊢;unfold zEE at h;by_cases JC:t<es.length
 ·rw[if_pos JC] at h;obtain⟨e,he⟩:∃e,es[es.length-1-t]? = some e:=⟨_,List.getElem?_eq_getElem (by omega)⟩;rw[he] at h;simp only at h;by_cases hx:e.x=f.2
  ·rw[if_pos hx] at h;obtain⟨z0,JA,u,hu⟩:=zON _ _ h;simp at JA;subst JA;have hi:es.length-t-1=es.length-1-t:=by omega
   refine⟨es.length-t,fun j=>u (j-(es.length-t)),.inr ⟨e,by omega,by rw[hi];exact he,hx,hu.sub⟩,fun j e' hj JB hn=>hu.pk (j-(es.length-t)) e' (by rw[List.getElem?_drop];rw[show es.length-t+(j-(es.length-t))=j by omega];exact JB) hn,fun g hg=>?_⟩;rcases hu.mem g hg with h1|⟨j,e',h1,h2,h3⟩
   ·exact .inr (.inl ⟨e,by omega,by rw[hi];exact he,h1⟩)
   ·rw[List.getElem?_drop] at h1;exact .inr (.inr ⟨es.length-t+j,e',by omega,h1,h2,by rw[h3];congr 1;omega⟩)
  ·rw[if_neg hx] at h;cases h
 ·rw[if_neg JC] at h;obtain⟨z0,JA,u,hu⟩:=zON _ _ h;simp at JA;subst JA;refine⟨0,u,.inl ⟨rfl,hu.sub f (by simp)⟩,fun j e' _ JB hn=>hu.pk j e' JB hn,fun g hg=>?_⟩;rcases hu.mem g hg with h1|⟨j,e',h1,h2,h3⟩
  ·simp at h1;exact .inl ⟨rfl,h1⟩
  ·exact .inr (.inr ⟨j,e',by omega,h1,h2,h3⟩)
def fK(p:List Go.Tk.Fc)(k:Nat):Go.Tk.Fc:=p.getD k (0,0)
def eK(o:No)(p:List Go.Tk.Fc)(k:Nat):List Nf:=esF o.effs (fK p k).1
structure PrR(vars:List Nat)(o:No)(p:List Go.Tk.Fc)(m:Nat)(z:List Go.Tk.Fc)(i:Nat->Nat)(u:Nat->Nat->Go.Tk.Fc):Prop where
 pre:∀g∈o.pre,g∈z
 st:∀k,k<m->(i k=0/\fK p k∈z)\/∃e,i k≠0/\(eK o p k)[i k-1]? = some e/\e.x=(fK p k).2/\∀g∈e.cnd,g∈z
 pk:∀(k j:Nat) (e:Nf),k<m->i k<=j->(eK o p k)[j]? = some e->e.x≠(fK p k).2->u k j∈z/\∃g∈e.cnd,(u k j).1=g.1/\(u k j).2≠g.2/\(u k j).2<vars.getD g.1 0
 mem:∀g∈z,g∈o.pre\/(∃k,k<m/\i k=0/\g=fK p k)\/(∃k e,k<m/\i k≠0/\(eK o p k)[i k-1]? = some e/\g∈e.cnd)\/∃(k j:Nat) (e:Nf),k<m/\i k<=j/\(eK o p k)[j]? = some e/\e.x≠(fK p k).2/\g=u k j
theorem zJz{vars:List Nat}{o:No}{p:List Go.Tk.Fc}:∀m,m<=p.length->∀z∈rgP vars o (p.take m),∃i u,PrR vars o p m z i u
 |0,_,z,h=>by simp[rgP] at h;subst h;exact⟨fun _=>0,fun _ _=>(0,0),fun g hg=>hg,by omega,by omega,fun g hg=>.inl hg⟩
 |m+1,hm,z,h=>by
  obtain⟨f,hf⟩:∃f,p[m]? = some f:=⟨_,List.getElem?_eq_getElem (by omega)⟩;have JA:fK p m=f:=by unfold fK;rw[List.getD,hf];rfl
  rw[zDI hf] at h;obtain⟨z0,JD,y,hy,hj⟩:=zDi.1 h;obtain⟨i,u,hr⟩:=zJz m (by omega) z0 JD;obtain⟨i',u',hc⟩:=zTS hy;have JC:=zRD hj;have inL:∀{g},g∈z0->g∈z:=fun hg=>(JC _).2 (.inl hg);have inR:∀{g},g∈y->g∈z:=fun hg=>(JC _).2 (.inr hg);have JB:eK o p m=esF o.effs f.1:=by unfold eK;rw[JA]
  have ne:∀{k},k<m->k≠m:=fun h=>by omega
  refine⟨fun k=>if k=m then i' else i k,fun k=>if k=m then u' else u k,fun g hg=>inL (hr.pre g hg),fun k hk=>?_,fun k j e hk h1 h2 h3=>?_,fun g hg=>?_⟩
  ·by_cases e:k=m
   ·subst e;simp only[if_true];rw[JA,JB];rcases hc.st with h1|⟨e',h1,h2,h3,h4⟩
    ·exact .inl ⟨h1.1,inR h1.2⟩
    ·exact .inr ⟨e',h1,h2,h3,fun g hg=>inR (h4 g hg)⟩
   ·simp only[if_neg e];rcases hr.st k (by omega) with h1|⟨e',h1,h2,h3,h4⟩
    ·exact .inl ⟨h1.1,inL h1.2⟩
    ·exact .inr ⟨e',h1,h2,h3,fun g hg=>inL (h4 g hg)⟩
  ·by_cases e0:k=m
   ·subst e0;simp only[if_true] at h1 ⊢;rw[JB] at h2;rw[JA] at h3;have:=hc.pk j e h1 h2 h3;exact⟨inR this.1,this.2⟩
   ·simp only[if_neg e0] at h1 ⊢;have:=hr.pk k j e (by omega) h1 h2 h3;exact⟨inL this.1,this.2⟩
  ·rcases(JC g).1 hg with h1|h1
   ·rcases hr.mem g h1 with h2|⟨k,hk,h2,h3⟩|⟨k,e,hk,h2,h3⟩|⟨k,j,e,hk,h2,h3,h4,h5⟩
    ·exact .inl h2
    ·exact .inr (.inl ⟨k,by omega,by simp only[if_neg (ne hk)];exact h2,h3⟩)
    ·exact .inr (.inr (.inl ⟨k,e,by omega,by simp only[if_neg (ne hk)];exact h2,by simp only[if_neg (ne hk)];exact h3⟩))
    ·exact .inr (.inr (.inr ⟨k,j,e,by omega,by simp only[if_neg (ne hk)];exact h2,h3,h4,by simp only[if_neg (ne hk)];exact h5⟩))
   ·rcases hc.mem g h1 with h2|⟨e,h2,h3,h4⟩|⟨j,e,h2,h3,h4,h5⟩
    ·exact .inr (.inl ⟨m,by omega,by simp only[if_true];exact h2.1,by rw[JA];exact h2.2⟩)
    ·exact .inr (.inr (.inl ⟨m,e,by omega,by simp only[if_true];exact h2,by simp only[if_true];rw[JB];exact h3,h4⟩))
    ·exact .inr (.inr (.inr ⟨m,j,e,by omega,by simp only[if_true];exact h2,by rw[JB];exact h3,by rw[JA];exact h4,by simp only[if_true];exact h5⟩))
end
section
open Go Go.W Go.Tk Go.Rx
abbrev Oc:=Nat×Nat×Nf
def occ(o:No)(p:List Go.Tk.Fc)(P:Go.Tk.Fc->Nf->Bool):List Oc:=(List.range p.length).flatMap fun k=>((eK o p k).zipIdx.filter fun x=>P (fK p k) x.1).map fun x=>(k,x.2,x.1)
theorem zAt{o:No}{p:List Go.Tk.Fc}{P:Go.Tk.Fc->Nf->Bool}{k j:Nat}{e:Nf}:(k,j,e)∈occ o p P<->k<p.length/\(eK o p k)[j]? = some e/\P (fK p k) e=true:=by
 unfold occ;rw[List.mem_flatMap];constructor
 ·rintro⟨k',JA,h⟩;obtain⟨x,hx,e1⟩:=List.mem_map.1 h;obtain⟨h1,h2⟩:=List.mem_filter.1 hx;simp only[Prod.mk.injEq] at e1;obtain⟨rfl,rfl,rfl⟩:=e1;have:=List.mem_zipIdx_iff_getElem?.1 h1;exact⟨List.mem_range.1 JA,this,h2⟩
 ·rintro⟨h1,h2,h3⟩;refine⟨k,List.mem_range.2 h1,List.mem_map.2 ⟨(e,j),List.mem_filter.2 ⟨List.mem_zipIdx_iff_getElem?.2 h2,h3⟩,rfl⟩⟩
theorem zEx{o:No}{p:List Go.Tk.Fc}{P:Go.Tk.Fc->Nf->Bool}:(occ o p P).Nodup:=by
 unfold occ;rw[List.nodup_iff_pairwise_ne,List.pairwise_flatMap];refine⟨fun k _=>?_,?_⟩
 ·rw[List.pairwise_map];have h1:(eK o p k).zipIdx.Pairwise fun a b=>a.2≠b.2:=by
   have h:=(List.nodup_range (n:=(eK o p k).length));have e:((eK o p k).zipIdx.map fun x=>x.2)=List.range (eK o p k).length:=by
    apply List.ext_getElem
    ·simp
    ·intro i h1 h2;simp
   rw[<-e] at h;exact List.pairwise_map.1 h
  refine(h1.sublist List.filter_sublist).imp fun {a b} h e=>h ?_;simp only[Prod.mk.injEq] at e;exact e.2.1
 ·refine List.nodup_range.imp fun {a b} h x hx y hy e=>h ?_;obtain⟨x',_,rfl⟩:=List.mem_map.1 hx;obtain⟨y',_,rfl⟩:=List.mem_map.1 hy;simp only[Prod.mk.injEq] at e;exact e.1
theorem zCF(o:No)(p:List Go.Tk.Fc)(P:Go.Tk.Fc->Nf->Bool):(occ o p P).length=((List.range p.length).map fun k=>((eK o p k).filter (P (fK p k))).length).sum:=by
 unfold occ;rw[List.length_flatMap];congr 1;apply List.map_congr_left;intro k _;rw[List.length_map];have:∀(l:List Nf) (n:Nat),((l.zipIdx n).filter fun x=>P (fK p k) x.1).length=(l.filter (P (fK p k))).length:=by
  intro l
  induction l with
  |nil=>intro n;rfl
  |cons e l ih =>
   intro n;rw[List.zipIdx_cons];by_cases h:P (fK p k) e=true
   ·have h1:(fun x:Nf×Nat=>P (fK p k) x.1) (e,n)=true:=h;rw[List.filter_cons_of_pos h,List.filter_cons_of_pos (p:=fun x:Nf×Nat=>P (fK p k) x.1) h1,List.length_cons,List.length_cons,ih]
   ·have h1:¬(fun x:Nf×Nat=>P (fK p k) x.1) (e,n)=true:=h;rw[List.filter_cons_of_neg h,List.filter_cons_of_neg (p:=fun x:Nf×Nat=>P (fK p k) x.1) h1,ih]
 exact this _ 0
theorem zJm{f g:Nat->Nat}:∀l:List Nat,(∀k∈l,f k<=g k)->(l.map f).sum<=(l.map g).sum
 |[],_=>Nat.le_refl _
 |k::l,h=>by have:=zJm l fun k' JA=>h k' (by simp[JA]);have:=h k (by simp);simp only[List.map_cons,List.sum_cons];omega
theorem zQq(Q:Nf->Bool):∀(es:List Nf) (vs:List Nat),vs.Nodup->(vs.map fun v=>((esF es v).filter Q).length).sum<=(es.filter Q).length
 |[],vs,_=>by
  have:∀vs:List Nat,(vs.map fun v=>((esF [] v).filter Q).length).sum=0:=by
   intro vs
   induction vs with
   |nil=>rfl
   |cons v vs ih=>simp only[List.map_cons,List.sum_cons,ih];rfl
  rw[this];exact Nat.zero_le _
 |e::es,vs,hv=>by
  have ih:=zQq Q es vs hv;have step:∀vs:List Nat,vs.Nodup->(vs.map fun v=>((esF (e::es) v).filter Q).length).sum=(vs.map fun v=>((esF es v).filter Q).length).sum+if Q e=true/\e.v∈vs then 1 else 0:=by
   intro vs
   induction vs with
   |nil=>intro _;simp
   |cons v vs ih =>
    intro hv;obtain⟨h1,h2⟩:=List.nodup_cons.1 hv;simp only[List.map_cons,List.sum_cons];rw[ih h2];have JB:((esF (e::es) v).filter Q).length=((esF es v).filter Q).length+if Q e=true/\e.v=v then 1 else 0:=by
     unfold esF;by_cases JA:e.v=v
     ·rw[List.filter_cons_of_pos (by simpa using JA)];by_cases hq:Q e=true
      ·rw[List.filter_cons_of_pos hq,if_pos ⟨hq,JA⟩];rfl
      ·rw[List.filter_cons_of_neg hq,if_neg (fun h=>hq h.1)];rfl
     ·rw[List.filter_cons_of_neg (by simpa using JA),if_neg (fun h=>JA h.2)];rfl
    rw[JB];by_cases hq:Q e=true
    ·by_cases JA:e.v=v
     ·have:e.v∉vs:=by rw[JA];exact h1
      simp[hq,JA,h1];omega
     ·simp[hq,JA];omega
    ·simp[hq]
  rw[step vs hv];by_cases hq:Q e=true
  ·rw[List.filter_cons_of_pos hq,List.length_cons];split<;>omega
  ·rw[List.filter_cons_of_neg hq,if_neg (fun h=>hq h.1)];omega
theorem zQ8{o:No}{p:List Go.Tk.Fc}(hp:(p.map (·.1)).Nodup){P:Go.Tk.Fc->Nf->Bool}{Q:Nf->Bool}(h:∀f e,P f e=true->Q e=true):(occ o p P).length<=(o.effs.filter Q).length:=by
 rw[zCF];have h1:((List.range p.length).map fun k=>((eK o p k).filter (P (fK p k))).length).sum<=((List.range p.length).map fun k=>((esF o.effs (fK p k).1).filter Q).length).sum:=zJm _ fun k _=>by
  unfold eK;have:∀l:List Nf,(l.filter (P (fK p k))).length<=(l.filter Q).length:=by
   intro l
   induction l with
   |nil=>exact Nat.le_refl _
   |cons e l ih =>
    by_cases hP:P (fK p k) e=true
    ·rw[List.filter_cons_of_pos hP,List.filter_cons_of_pos (h _ _ hP),List.length_cons,List.length_cons];omega
    ·rw[List.filter_cons_of_neg hP];refine Nat.le_trans ih ?_;by_cases hQ:Q e=true
     ·rw[List.filter_cons_of_pos hQ,List.length_cons];omega
     ·rw[List.filter_cons_of_neg hQ];exact Nat.le_refl _
  exact this _
 have h2:=zQq Q o.effs (p.map (·.1)) hp;have h3:((List.range p.length).map fun k=>((esF o.effs (fK p k).1).filter Q).length)=(p.map (·.1)).map fun v=>((esF o.effs v).filter Q).length:=by
  rw[List.map_map];apply List.ext_getElem
  ·simp
  ·intro i a b;have hi:i<p.length:=by simpa using a
   simp[fK,List.getD,List.getElem?_eq_getElem hi]
 rw[h3] at h1;exact Nat.le_trans h1 h2
def pC(f:Go.Tk.Fc)(e:Nf):Bool:=decide (e.x≠f.2) && !e.cnd.isEmpty
def pU(f:Go.Tk.Fc)(e:Nf):Bool:=decide (e.x=f.2)&&e.cnd.isEmpty
def pW(f:Go.Tk.Fc)(e:Nf):Bool:=decide (e.x=f.2) && !e.cnd.isEmpty
theorem flt3{α:Type}(a b c d:α->Bool)(JC:∀x,a x=true->b x=false/\c x=false/\d x=true)(hb:∀x,b x=true->c x=false/\d x=true)(hc:∀x,c x=true->d x=true):∀l:List α,(l.filter a).length+(l.filter b).length+(l.filter c).length<=(l.filter d).length
 |[]=>Nat.le_refl _
 |x::l=>by
  have ih:=flt3 a b c d JC hb hc l;cases ha:a x with
  |true =>obtain⟨h1,h2,h3⟩:=JC x ha;rw[List.filter_cons_of_pos ha,List.filter_cons_of_neg (by simp[h1]),List.filter_cons_of_neg (by simp[h2]),List.filter_cons_of_pos h3];simp only[List.length_cons];omega
  |false =>
   rw[List.filter_cons_of_neg (by simp[ha])];cases JB:b x with
   |true =>obtain⟨h2,h3⟩:=hb x JB;rw[List.filter_cons_of_pos JB,List.filter_cons_of_neg (by simp[h2]),List.filter_cons_of_pos h3];simp only[List.length_cons];omega
   |false =>
    rw[List.filter_cons_of_neg (by simp[JB])];cases JA:c x with
    |true =>rw[List.filter_cons_of_pos JA,List.filter_cons_of_pos (hc x JA)];simp only[List.length_cons];omega
    |false =>
     rw[List.filter_cons_of_neg (by simp[JA])];refine Nat.le_trans ih ?_;cases hd:d x with
     |true=>rw[List.filter_cons_of_pos hd,List.length_cons];omega
     |false=>rw[List.filter_cons_of_neg (by simp[hd])];exact Nat.le_refl _
theorem occ3{o:No}{p:List Go.Tk.Fc}{a b c d:Go.Tk.Fc->Nf->Bool}(JA:∀f x,a f x=true->b f x=false/\c f x=false/\d f x=true)(hb:∀f x,b f x=true->c f x=false/\d f x=true)(hc:∀f x,c f x=true->d f x=true):(occ o p a).length+(occ o p b).length+(occ o p c).length<=(occ o p d).length:=by
 rw[zCF,zCF,zCF,zCF];have:∀l:List Nat,(l.map fun k=>((eK o p k).filter (a (fK p k))).length).sum+(l.map fun k=>((eK o p k).filter (b (fK p k))).length).sum+(l.map fun k=>((eK o p k).filter (c (fK p k))).length).sum<=(l.map fun k=>((eK o p k).filter (d (fK p k))).length).sum:=by
  intro l
  induction l with
  |nil=>exact Nat.le_refl _
  |cons k l ih =>have:=flt3 (a (fK p k)) (b (fK p k)) (c (fK p k)) (d (fK p k)) (JA _) (hb _) (hc _) (eK o p k);simp only[List.map_cons,List.sum_cons];omega
 exact this _
theorem zM0{o:No}{p:List Go.Tk.Fc}(hp:(p.map (·.1)).Nodup):(occ o p pC).length+(occ o p pU).length+(occ o p pW).length<=o.effs.length:=by
 have h1:=occ3 (o:=o) (p:=p) (a:=pC) (b:=pU) (c:=pW) (d:=fun _ _=>true) (fun f x h=>by
  unfold pC at h;unfold pU pW;simp only[Bool.and_eq_true,decide_eq_true_eq] at h;simp[h.1]) (fun f x h=>by
  unfold pU at h;unfold pW;simp only[Bool.and_eq_true] at h;simp[h.2]) (fun _ _ _=>rfl)
 have h2:=zQ8 (o:=o) hp (P:=fun _ _=>true) (Q:=fun _=>true) (fun _ _ _=>rfl);have h3:(o.effs.filter fun _=>true).length=o.effs.length:=by simp
 omega
theorem zPf{o:No}{p:List Go.Tk.Fc}(hp:(p.map (·.1)).Nodup):(occ o p pC).length+(occ o p pW).length<=mnF o.effs:=by
 have h1:=occ3 (o:=o) (p:=p) (a:=pC) (b:=fun _ _=>false) (c:=pW) (d:=fun _ e=>!e.cnd.isEmpty) (fun f x h=>by unfold pC at h;unfold pW;simp only[Bool.and_eq_true,decide_eq_true_eq] at h;refine⟨rfl,by simp[h.1],h.2⟩) (fun f x h=>by cases h) (fun f x h=>by unfold pW at h;simp only[Bool.and_eq_true] at h;exact h.2);have h2:=zQ8 (o:=o) hp (P:=fun _ e=>!e.cnd.isEmpty) (Q:=fun e=>decide (0<e.cnd.length)) (fun _ e h=>by
  cases hc:e.cnd with
  |nil=>rw[hc] at h;cases h
  |cons x l=>simp)
 unfold mnF;omega
end
end Go.Proofs.YtolkjbmcindhjaaGreat
