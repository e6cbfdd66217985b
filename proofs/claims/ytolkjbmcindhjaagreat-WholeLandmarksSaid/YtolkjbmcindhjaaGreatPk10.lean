/-
  A part of the proof of this claim's statement (RxDij, RxRel, LibM, RxW1): plain theorems; no conditions beyond those each names.
-/
import Derived.Test.YtolkjbmcindhjaaGreatPk09
import Derived.Test.YtolkjbmcindhjaaGreatPk07
set_option maxRecDepth 100000
set_option linter.unusedSimpArgs false
set_option linter.unusedVariables false
set_option linter.unusedSectionVars false
section
namespace Go.Rx
def updN {α:Type} (V:Nat→α) (i:Nat) (x:α):Nat→α:=fun j=>if j=i then x else V j
@[simp] theorem updN_same {α:Type} {V:Nat→α} {i:Nat} {x:α}:updN V i x i=x:=by simp [updN]
theorem updN_ne {α:Type} {V:Nat→α} {i j:Nat} {x:α} (h:j≠i):updN V i x j=V j:=by simp [updN,h]
def allow (ok:Nat→Bool) (U:List Un):List Un:=U.filter fun u=>ok u.op
theorem allow_mem {ok:Nat→Bool} {U:List Un} {u:Un}:u ∈ allow ok U↔u ∈ U∧ok u.op=true:=by simp [allow]
structure Dj (U:List Un) (ok:Nat→Bool) (S S0:List Nat) (out:Nat→Nat) (s:List En) (done:Nat→Bool) (cur:Nat) (pend:List Nat):Prop where
 s0:∀f ∈ S0,out f=0
 der:∀f,out f < Inf→Der (allow ok U) S f (out f)
 le:∀f,out f≤Inf
 ent:∀e ∈ s,out e.2≤e.1∧e.1 < Inf
 wait:∀f,out f < Inf→done f=false→(out f,f) ∈ s
 dn:∀f,done f=true→out f≤cur
 nd:∀e ∈ s,cur≤e.1
 cu:cur < Inf
 fired:∀i u,U[i]? = some u→ok u.op=true→(∀n ∈ u.needs,done n=true)→i ∉ pend→out u.makes≤gr out u.needs+u.cost
section
variable {U:List Un} {ok:Nat→Bool} {S S0:List Nat} {out:Nat→Nat} {s s':List En} {done:Nat→Bool} {cur:Nat} {pend:List Nat}
theorem Dj.init (hp:∀i u,U[i]? = some u→u.needs=[]→i ∈ pend):Dj U ok S [] (fun _=>Inf) [] (fun _=>false) 0 pend:={
 s0:=by simp
 der:=fun f hf=>by simp at hf
 le:=fun _=>Nat.le_refl _
 ent:=by simp
 wait:=fun f hf=>by simp at hf
 dn:=by simp
 nd:=by simp
 cu:=by decide
 fired:=fun i u hi _ hn hnp=>by
  cases hu:u.needs with
  | nil=>exact absurd (hp i u hi hu) hnp
  | cons x l=>have:=hn x (by simp [hu]); cases this }
theorem Dj.reach (h:Dj U ok S S0 out s done cur pend) {v f:Nat} (hlt:v < out f) (hd:Der (allow ok U) S f v) (hc:cur≤v):Dj U ok S S0 (updN out f v) ((v,f) :: s) done cur pend:=by
 have hle:=h.le f
 have low:∀g,updN out f v g≤out g:=fun g=>by
  by_cases e:g=f
  ·subst e; simp; omega
  ·rw [updN_ne e]; exact Nat.le_refl _
 have nf:done f=false:=by
  cases hdf:done f with
  | false=>rfl
  | true=>have:=h.dn f hdf; omega
 refine ⟨fun g hg=>?_,fun g hg=>?_,fun g=>Nat.le_trans (low g) (h.le g),fun e he=>?_,fun g hg hdg=>?_,fun g hg=>Nat.le_trans (low g) (h.dn g hg),fun e he=>?_,h.cu,fun i u hi hok hn hnp=>?_⟩
 ·have:=h.s0 g hg
  have:=low g
  omega
 ·by_cases e:g=f
  ·subst e; simpa using hd
  ·rw [updN_ne e] at hg ⊢; exact h.der g hg
 ·rcases List.mem_cons.1 he with rfl | he
  ·exact ⟨by simp,by show v < Inf; omega⟩
  ·obtain ⟨h1,h2⟩:=h.ent e he
   exact ⟨Nat.le_trans (low _) h1,h2⟩
 ·by_cases e:g=f
  ·subst e; simp
  ·rw [updN_ne e] at hg ⊢
   exact List.mem_cons_of_mem _ (h.wait g hg hdg)
 ·rcases List.mem_cons.1 he with rfl | he
  ·exact hc
  ·exact h.nd e he
 ·have e1:gr (updN out f v) u.needs=gr out u.needs:=gr_congr fun n hn2=>updN_ne fun e=>by
   have:=hn n hn2
   rw [e,nf] at this; cases this
  rw [e1]
  exact Nat.le_trans (low _) (h.fired i u hi hok hn hnp)
theorem Dj.start (h:Dj U ok S S0 out s done cur pend) {f:Nat} (hf:out f=0):Dj U ok S (S0 ++ [f]) out s done cur pend:=by
 refine ⟨fun g hg=>?_,h.der,h.le,h.ent,h.wait,h.dn,h.nd,h.cu,h.fired⟩
 rcases List.mem_append.1 hg with h1 | h1
 ·exact h.s0 g h1
 ·simp at h1; subst h1; exact hf
theorem Dj.look {i:Nat} (h:Dj U ok S S0 out s done cur (i :: pend)) (hi:∀u,U[i]? = some u→ok u.op=true→(∀n ∈ u.needs,done n=true)→out u.makes≤gr out u.needs+u.cost):Dj U ok S S0 out s done cur pend:=by
 refine ⟨h.s0,h.der,h.le,h.ent,h.wait,h.dn,h.nd,h.cu,fun j u hj hok hn hnp=>?_⟩
 by_cases e:j=i
 ·subst e; exact hi u hj hok hn
 ·exact h.fired j u hj hok hn (by simp [e,hnp])
theorem Dj.der_now (h:Dj U ok S S0 out s done cur pend) {u:Un} (hu:u ∈ U) (hok:ok u.op=true) (hn:∀n ∈ u.needs,done n=true):Der (allow ok U) S u.makes (gr out u.needs+u.cost) :=
 .step (allow_mem.2 ⟨hu,hok⟩) out fun n hn2=>h.der n (by have:=h.dn n (hn n hn2); have:=h.cu; omega)
theorem Dj.skip (h:Dj U ok S S0 out s done cur pend) {x:En} (hd:done x.2=true):Dj U ok S S0 out (s.erase x) done cur pend:=by
 refine ⟨h.s0,h.der,h.le,fun e he=>h.ent e (List.mem_of_mem_erase he),fun f hf hdf=>?_,h.dn,fun e he=>h.nd e (List.mem_of_mem_erase he),h.cu,h.fired⟩
 refine (List.mem_erase_of_ne fun e=>?_).2 (h.wait f hf hdf)
 rw [←e] at hd
 rw [hd] at hdf; cases hdf
theorem Dj.pop (h:Dj U ok S S0 out s done cur []) {x:En} (hx:x ∈ s) (hm:∀y ∈ s,x.1≤y.1) (hd:done x.2=false) (hp:∀i u,U[i]? = some u→x.2 ∈ u.needs→i ∈ pend) :
  Dj U ok S S0 out (s.erase x) (updN done x.2 true) x.1 pend∧out x.2=x.1:=by
 obtain ⟨h1,h2⟩:=h.ent x hx
 have h3:=hm _ (h.wait x.2 (by omega) hd)
 have e:out x.2=x.1:=Nat.le_antisymm h1 h3
 refine ⟨⟨h.s0,h.der,h.le,fun e he=>h.ent e (List.mem_of_mem_erase he),fun f hf hdf=>?_,fun f hf=>?_,fun e he=>hm e (List.mem_of_mem_erase he),h2,fun i u hi hok hn hnp=>?_⟩,e⟩
 ·have hne:f≠x.2:=fun e=>by rw [e] at hdf; simp at hdf
  rw [updN_ne hne] at hdf
  exact (List.mem_erase_of_ne fun e=>hne (by rw [←e])).2 (h.wait f hf hdf)
 ·by_cases e2:f=x.2
  ·rw [e2,e]; exact Nat.le_refl _
  ·rw [updN_ne e2] at hf
   exact Nat.le_trans (h.dn f hf) (h.nd x hx)
 ·refine h.fired i u hi hok (fun n hn2=>?_) (by simp)
  have:=hn n hn2
  rwa [updN_ne] at this
  intro e2
  exact hnp (hp i u hi (e2 ▸ hn2))
theorem Dj.fin (h:Dj U ok S S out [] done cur []):IsVal (allow ok U) S out:=by
 refine ⟨h.s0,fun u hu hg=>?_,h.der,h.le⟩
 obtain ⟨hu1,hok⟩:=allow_mem.1 hu
 obtain ⟨i,hi,rfl⟩:=List.getElem_of_mem hu1
 refine h.fired i _ (List.getElem?_eq_getElem hi) hok (fun n hn=>?_) (by simp)
 have:=(gr_lt_iff (by decide)).1 hg n hn
 cases hd:done n with
 | true=>rfl
 | false=>have:=h.wait n this hd; cases this
theorem Dj.gr_cur (h:Dj U ok S S0 out s done cur pend) {l:List Nat} (hn:∀n ∈ l,done n=true) {f:Nat} (hf:f ∈ l) (e:out f=cur):gr out l=cur :=
 Nat.le_antisymm (gr_le_iff.2 fun n hn2=>h.dn n (hn n hn2)) (e ▸ gr_mem hf)
def opens (done:Nat→Bool) (l:List Nat):Nat:=l.countP fun n=>!done n
theorem opens_zero {l:List Nat}:opens done l=0↔∀n ∈ l,done n=true:=by
 unfold opens
 rw [List.countP_eq_zero]
 simp
theorem opens_upd {f:Nat} {l:List Nat} (hn:l.Nodup) (hf:done f=false):opens done l=opens (updN done f true) l+if f ∈ l then 1 else 0:=by
 induction l with
 | nil=>simp [opens]
 | cons x l ih =>
  rw [List.nodup_cons] at hn
  have:=ih hn.2
  unfold opens at this ⊢
  rw [List.countP_cons,List.countP_cons,this]
  by_cases e:x=f
  ·subst e
   simp [hf,hn.1]
  ·rw [updN_ne e]
   have e':(f ∈ x :: l)=(f ∈ l):=by simp [Ne.symm e]
   simp only [e']
   omega
theorem opens_none {l:List Nat}:opens (fun _=>false) l=l.length:=by simp [opens]
def dones (done:Nat→Bool) (N:Nat):Nat:=(List.range N).countP done
theorem dones_le {N:Nat}:dones done N≤N:=by
 have:=List.countP_le_length (p:=done) (l:=List.range N)
 simpa [dones] using this
theorem dones_upd {f N:Nat} (hf:f < N) (hd:done f=false):dones (updN done f true) N=dones done N+1:=by
 have h1:∀l:List Nat,l.countP done+l.countP (fun n=>!done n)=l.length:=fun l=>by
  induction l with
  | nil=>rfl
  | cons x l ih =>
   rw [List.countP_cons,List.countP_cons,List.length_cons]
   cases done x <;> simp <;> omega
 have h2:∀l:List Nat,l.countP (updN done f true)+l.countP (fun n=>!(updN done f true) n)=l.length:=fun l=>by
  induction l with
  | nil=>rfl
  | cons x l ih =>
   rw [List.countP_cons,List.countP_cons,List.length_cons]
   cases updN done f true x <;> simp <;> omega
 have h3:=opens_upd (done:=done) (f:=f) (l:=List.range N) List.nodup_range hd
 rw [if_pos (List.mem_range.2 hf)] at h3
 have a:=h1 (List.range N)
 have b:=h2 (List.range N)
 unfold opens at h3
 unfold dones
 omega
end
end Go.Rx
end
section
namespace Go.Rx
open Go.Tk Go.W Go
def psum (vars:List Nat) (v:Nat):Nat:=(vars.take v).sum
theorem psum_succ {vars:List Nat} {v n:Nat} (h:vars[v]? = some n):psum vars (v+1)=psum vars v+n:=by
 unfold psum
 rw [List.take_add_one,h,List.sum_append]
 simp
theorem psum_all (vars:List Nat):psum vars vars.length=vars.sum:=by simp [psum]
theorem psum_mono {vars:List Nat} {v w:Nat} (h:v≤w):psum vars v≤psum vars w:=by
 obtain ⟨d,rfl⟩:∃d,w=v+d:=⟨w - v,by omega⟩
 induction d with
 | zero=>exact Nat.le_refl _
 | succ d ih =>
  have h1:=ih (by omega)
  refine Nat.le_trans h1 ?_
  rw [show v+(d+1)=(v+d)+1 by omega]
  cases hv:vars[v+d]? with
  | none =>
   have:=List.getElem?_eq_none_iff.1 hv
   unfold psum
   rw [List.take_of_length_le this,List.take_of_length_le (by omega)]
   exact Nat.le_refl _
  | some n=>rw [psum_succ hv]; omega
theorem psum_le {vars:List Nat} (v:Nat):psum vars v≤vars.sum:=by
 rcases Nat.le_total v vars.length with h | h
 ·rw [←psum_all]; exact psum_mono h
 ·unfold psum; rw [List.take_of_length_le h]; exact Nat.le_refl _
def numF (vars:List Nat) (f:Fc):Nat:=psum vars f.1+f.2
theorem numF_lt {vars:List Nat} {f:Fc} (h1:f.1 < vars.length) (h2:f.2 < vars.getD f.1 0):numF vars f < vars.sum:=by
 obtain ⟨n,hn⟩:∃n,vars[f.1]? = some n:=⟨_,List.getElem?_eq_getElem h1⟩
 have e:vars.getD f.1 0=n:=by simp [List.getD,hn]
 have h3:=psum_succ hn
 have h4:=psum_le (vars:=vars) (f.1+1)
 unfold numF
 omega
theorem numF_inj {vars:List Nat} {f g:Fc} (h1:f.1 < vars.length) (h2:f.2 < vars.getD f.1 0) (k1:g.1 < vars.length) (k2:g.2 < vars.getD g.1 0) (h:numF vars f=numF vars g):f=g:=by
 have key:∀{f g:Fc},f.1 < vars.length→f.2 < vars.getD f.1 0→f.1 < g.1→numF vars f < numF vars g:=fun {f g} h1 h2 hlt=>by
  obtain ⟨n,hn⟩:∃n,vars[f.1]? = some n:=⟨_,List.getElem?_eq_getElem h1⟩
  have e:vars.getD f.1 0=n:=by simp [List.getD,hn]
  have h3:=psum_succ hn
  have h4:=psum_mono (vars:=vars) (show f.1+1≤g.1 by omega)
  unfold numF
  omega
 rcases Nat.lt_trichotomy f.1 g.1 with hl | he | hl
 ·have:=key h1 h2 hl; omega
 ·unfold numF at h
  rw [he] at h
  exact Prod.ext he (by omega)
 ·have:=key k1 k2 hl; omega
theorem sum_le {vars:List Nat} {N:Nat} (h:∀n ∈ vars,n≤N):vars.sum≤vars.length * N:=by
 induction vars with
 | nil=>simp
 | cons x l ih =>
  have:=ih fun n hn=>h n (by simp [hn])
  have:=h x (by simp)
  rw [List.sum_cons,List.length_cons,Nat.add_mul]
  omega
def ndd (acc:List Nat) (n:Nat):List Nat:=if n ∈ acc then acc else acc ++ [n]
def dedup (l:List Nat):List Nat:=l.foldl ndd []
theorem ndd_mem {acc:List Nat} {n x:Nat}:x ∈ ndd acc n↔x ∈ acc∨x=n:=by
 unfold ndd
 split
 ·rename_i h
  exact ⟨.inl,fun h1=>h1.elim id (fun e=>e ▸ h)⟩
 ·simp
theorem ndd_nodup {acc:List Nat} {n:Nat} (h:acc.Nodup):(ndd acc n).Nodup:=by
 unfold ndd
 split
 ·exact h
 ·rename_i hn
  rw [List.nodup_append]
  refine ⟨h,by simp,fun a ha b hb=>?_⟩
  simp at hb; subst hb
  intro e; exact hn (e ▸ ha)
theorem fold_mem:∀(l acc:List Nat) (x:Nat),x ∈ l.foldl ndd acc↔x ∈ acc∨x ∈ l
 | [],acc,x=>by simp
 | n :: l,acc,x=>by rw [List.foldl_cons,fold_mem l,ndd_mem]; simp [or_assoc]
theorem fold_nodup:∀(l acc:List Nat),acc.Nodup→(l.foldl ndd acc).Nodup
 | [],acc,h=>h
 | n :: l,acc,h=>fold_nodup l _ (ndd_nodup h)
theorem fold_len:∀(l acc:List Nat),(l.foldl ndd acc).length≤acc.length+l.length
 | [],acc=>by simp
 | n :: l,acc=>by
  have:=fold_len l (ndd acc n)
  have:(ndd acc n).length≤acc.length+1:=by unfold ndd; split <;> simp
  rw [List.foldl_cons,List.length_cons]
  omega
theorem dedup_mem {l:List Nat} {x:Nat}:x ∈ dedup l↔x ∈ l:=by unfold dedup; rw [fold_mem]; simp
theorem dedup_nodup (l:List Nat):(dedup l).Nodup:=fold_nodup l [] (by simp)
def unA (vars:List Nat) (o:No) (i c k:Nat):Un:=match o.effs[k]? with
 | some e=>⟨i,k,c,numF vars (e.v,e.x),dedup ((o.pre ++ e.cnd).map (numF vars))⟩
 | none=>⟨0,0,0,0,[]⟩
def opU (vars:List Nat) (o:No) (i c k:Nat):List Un:=(List.range k).map (unA vars o i c)
def unsK (t:Nt) (cost:Nat→Nat) (n:Nat):List Un:=(List.range n).flatMap fun i=>match t.ops[i]? with
 | some o=>opU t.vars o i (cost i) o.effs.length
 | none=>[]
def uns (t:Nt) (cost:Nat→Nat):List Un:=unsK t cost t.ops.length
theorem opU_succ (vars:List Nat) (o:No) (i c k:Nat):opU vars o i c (k+1)=opU vars o i c k ++ [unA vars o i c k]:=by
 unfold opU; rw [List.range_succ]; simp
theorem unsK_succ {t:Nt} {cost:Nat→Nat} {n:Nat} {o:No} (h:t.ops[n]? = some o):unsK t cost (n+1)=unsK t cost n ++ opU t.vars o n (cost n) o.effs.length:=by
 unfold unsK; rw [List.range_succ,List.flatMap_append]; simp [h]
theorem opU_len (vars:List Nat) (o:No) (i c k:Nat):(opU vars o i c k).length=k:=by simp [opU]
theorem unsK_len {t:Nt} {cost:Nat→Nat} (h:∀o ∈ t.ops,o.effs.length≤64):∀n,(unsK t cost n).length≤64 * n
 | 0=>by simp [unsK]
 | n+1=>by
  have:=unsK_len (cost:=cost) h n
  cases ho:t.ops[n]? with
  | none =>
   unfold unsK at *
   rw [List.range_succ,List.flatMap_append]
   simp [ho] at this ⊢
   omega
  | some o =>
   rw [unsK_succ ho,List.length_append,opU_len]
   have:=h o (List.mem_of_getElem? ho)
   omega
def nbF (U:List Un) (f:Nat):List Nat:=(List.range U.length).filter fun i=>match U[i]? with | some u=>decide (f ∈ u.needs) | none=>false
def frF (U:List Un):List Nat:=(List.range U.length).filter fun i=>match U[i]? with | some u=>decide (u.needs=[]) | none=>false
theorem rng_snoc {p:Un→Bool} (U:List Un) (u:Un):(List.range (U ++ [u]).length).filter (fun i=>match (U ++ [u])[i]? with | some u=>p u | none=>false) =
  (List.range U.length).filter (fun i=>match U[i]? with | some u=>p u | none=>false) ++ if p u=true then [U.length] else []:=by
 rw [List.length_append,List.length_singleton,List.range_succ,List.filter_append]
 congr 1
 ·refine List.filter_congr fun i hi=>?_
  rw [List.getElem?_append_left (List.mem_range.1 hi)]
 ·cases h:p u <;> simp [h]
theorem nbF_snoc (U:List Un) (u:Un) (f:Nat):nbF (U ++ [u]) f=nbF U f ++ if f ∈ u.needs then [U.length] else []:=by
 unfold nbF
 rw [rng_snoc (p:=fun u=>decide (f ∈ u.needs))]
 simp
theorem frF_snoc (U:List Un) (u:Un):frF (U ++ [u])=frF U ++ if u.needs=[] then [U.length] else []:=by
 unfold frF
 rw [rng_snoc (p:=fun u=>decide (u.needs=[]))]
 simp
theorem nbF_mem {U:List Un} {f i:Nat}:i ∈ nbF U f↔∃u,U[i]? = some u∧f ∈ u.needs:=by
 unfold nbF
 rw [List.mem_filter,List.mem_range]
 constructor
 ·rintro ⟨h1,h2⟩
  rw [List.getElem?_eq_getElem h1] at h2
  exact ⟨_,List.getElem?_eq_getElem h1,of_decide_eq_true h2⟩
 ·rintro ⟨u,hu,h⟩
  exact ⟨(List.getElem?_eq_some_iff.1 hu).1,by rw [hu]; exact decide_eq_true h⟩
theorem frF_mem {U:List Un} {i:Nat}:i ∈ frF U↔∃u,U[i]? = some u∧u.needs=[]:=by
 unfold frF
 rw [List.mem_filter,List.mem_range]
 constructor
 ·rintro ⟨h1,h2⟩
  rw [List.getElem?_eq_getElem h1] at h2
  exact ⟨_,List.getElem?_eq_getElem h1,of_decide_eq_true h2⟩
 ·rintro ⟨u,hu,h⟩
  exact ⟨(List.getElem?_eq_some_iff.1 hu).1,by rw [hu]; exact decide_eq_true h⟩
theorem nbF_nodup (U:List Un) (f:Nat):(nbF U f).Nodup:=List.nodup_range.filter _
theorem nbF_len (U:List Un) (f:Nat):(nbF U f).length≤U.length:=by
 have:=List.length_filter_le (fun i=>match U[i]? with | some u=>decide (f ∈ u.needs) | none=>false) (List.range U.length)
 rw [List.length_range] at this
 exact this
theorem frF_len (U:List Un):(frF U).length≤U.length:=by
 have:=List.length_filter_le (fun i=>match U[i]? with | some u=>decide (u.needs=[]) | none=>false) (List.range U.length)
 rw [List.length_range] at this
 exact this
end Go.Rx
end
section
namespace Go.W
open Go
section
variable {α:Type} {enc:α→List Value} {E sz:Nat} {B X Y:Asr} {w w1:World} {F:List Nat}
def RowsA (E sz:Nat) (enc:α→List Value):List (Cell1 × List α)→Asr→Asr
 | [],B=>B
 | p :: ps,B=>Star (OwnA p.1.1 E sz enc p.2) (RowsA E sz enc ps B)
theorem Lcl.rows (hB:Lcl B):∀(ps:List (Cell1 × List α)),Lcl (RowsA E sz enc ps B)
 | []=>hB
 | p :: ps=>Lcl.own.star (Lcl.rows hB ps)
theorem RowsA.out:∀(ps:List (Cell1 × List α)) (i:Nat) (p:Cell1 × List α),ps[i]? = some p→Imp (RowsA E sz enc ps B) (Star (OwnA p.1.1 E sz enc p.2) (RowsA E sz enc (ps.eraseIdx i) B))
 | [],i,p,h=>by simp at h
 | q :: ps,0,p,h=>by
  simp at h; subst h
  exact Imp.rfl
 | q :: ps,i+1,p,h=>by
  simp only [List.eraseIdx_cons_succ,RowsA]
  exact (Imp.un (RowsA.out ps i p (by simpa using h))).trans Imp.sw
theorem RowsA.back:∀(ps:List (Cell1 × List α)) (i:Nat) (p:Cell1 × List α),i < ps.length→Imp (Star (OwnA p.1.1 E sz enc p.2) (RowsA E sz enc (ps.eraseIdx i) B)) (RowsA E sz enc (ps.set i p) B)
 | [],i,p,h=>by simp at h
 | q :: ps,0,p,h=>Imp.rfl
 | q :: ps,i+1,p,h=>by
  simp only [List.eraseIdx_cons_succ,RowsA,List.set_cons_succ]
  exact Imp.sw.trans (Imp.un (RowsA.back ps i p (by simpa using h)))
theorem RowsA.up:∀(ps:List (Cell1 × List α)),Imp (RowsA E sz enc ps (Star X Y)) (Star X (RowsA E sz enc ps Y))
 | []=>Imp.rfl
 | p :: ps=>(Imp.un (RowsA.up ps)).trans Imp.sw
theorem RowsA.drop:∀(ps:List (Cell1 × List α)),Imp (RowsA E sz enc ps X) X
 | []=>Imp.rfl
 | p :: ps=>Imp.dr.trans (RowsA.drop ps)
theorem At.rows_nil (hB:Lcl B) (h:At w F B w1) (o:oneC (.slice none 0 0)=true):∀n,At w F (RowsA E sz enc (List.replicate n ((⟨.slice none 0 0,o⟩,[]):Cell1 × List α)) B) w1
 | 0=>h
 | n+1=>by
  rw [List.replicate_succ]
  exact At.nil (Lcl.rows hB _) (At.rows_nil hB h o n)
end
section
variable {α:Type} {enc:α→List Value} {E E2:Nat} {B:Asr} {w w1:World} {F:List Nat} {v:Value} {ps:List (Cell1 × List α)}
def Tb2 (v:Value) (E2 E:Nat) (enc:α→List Value) (ps:List (Cell1 × List α)) (B:Asr):Asr:=Star (OwnA v E2 1 sv1 ps) (RowsA E 1 enc ps B)
theorem Lcl.tb2 (hB:Lcl B):Lcl (Tb2 v E2 E enc ps B):=Lcl.own.star (Lcl.rows hB ps)
theorem Own.same {β γ:Type} {encb:β→List Value} {encc:γ→List Value} {l:List β} {l':List γ} {sz:Nat} (h:Own w v E sz encb l) (e:l.flatMap encb=l'.flatMap encc) (hl:l.length=l'.length):Own w v E sz encc l':=by
 unfold Own at *
 rw [←e,←hl]
 rcases h with ⟨h1,h2⟩ | h
 ·left
  subst h2
  refine ⟨h1,?_⟩
  simp at hl
  exact List.eq_nil_of_length_eq_zero hl.symm
 ·exact .inr h
theorem OwnA.same {β γ:Type} {encb:β→List Value} {encc:γ→List Value} {l:List β} {l':List γ} {sz:Nat} {X:Asr} (e:l.flatMap encb=l'.flatMap encc) (hl:l.length=l'.length):Imp (Star (OwnA v E sz encb l) X) (Star (OwnA v E sz encc l') X):=by
 rintro w F ⟨Fa,Fb,⟨h1,h2⟩,h3,hd,rfl⟩
 exact ⟨_,⟨Fa,Fb,⟨h1.same e hl,h2⟩,h3,hd,rfl⟩,fun x hx=>hx⟩
theorem sv1_set (ps:List (Cell1 × List α)) {i:Nat} {p:Cell1 × List α} (hi:ps[i]? = some p) (l:List α):ps.flatMap sv1=(ps.set i (p.1,l)).flatMap sv1:=by
 induction ps generalizing i with
 | nil=>rfl
 | cons q ps ih =>
  cases i with
  | zero=>simp at hi; subst hi; rfl
  | succ i=>simp only [List.set_cons_succ,List.flatMap_cons]; rw [ih (by simpa using hi)]
theorem Tb2.own (h:At w F (Tb2 v E2 E enc ps B) w1):Own w1 v E2 1 sv1 ps:=At.own h
theorem Tb2.rowI {i:Nat} {p:Cell1 × List α} (hi:ps[i]? = some p):Imp (Tb2 v E2 E enc ps B) (Star (OwnA p.1.1 E 1 enc p.2) (Star (OwnA v E2 1 sv1 ps) (RowsA E 1 enc (ps.eraseIdx i) B))):=(Imp.un (RowsA.out ps i p hi)).trans Imp.sw
theorem Tb2.row {i:Nat} {p:Cell1 × List α} (h:At w F (Tb2 v E2 E enc ps B) w1) (hi:ps[i]? = some p):Own w1 p.1.1 E 1 enc p.2:=(h.by (Tb2.rowI hi)).own
theorem Tb2.rowB {i:Nat} {p:Cell1 × List α} {l:List α} (hi:ps[i]? = some p):Imp (Star (OwnA p.1.1 E 1 enc l) (Star (OwnA v E2 1 sv1 ps) (RowsA E 1 enc (ps.eraseIdx i) B))) (Tb2 v E2 E enc (ps.set i (p.1,l)) B):=by
 have hlt:i < ps.length:=(List.getElem?_eq_some_iff.1 hi).1
 exact Imp.sw.trans ((Imp.un (RowsA.back ps i (p.1,l) hlt)).trans (OwnA.same (sv1_set ps hi l) (by simp)))
theorem Tb2.store {KW:Kont World} {i k:Nat} {p:Cell1 × List α} {x:α} {cs:List Value} (hB:Lcl B) (h:At w F (Tb2 v E2 E enc ps B) w1) (hi:ps[i]? = some p) (he:∀x,(enc x).length=1) (h1:∀x,(enc x).all oneC=true) (hk:k < p.2.length) (hcs:cs=enc x)
  (H:∀w2,At w F (Tb2 v E2 E enc (ps.set i (p.1,p.2.set k x)) B) w2→KW.run w2):@stJ w1 ⟨p.1.1.blk,k,none⟩ cs KW :=
 (h.by (Tb2.rowI hi)).store1 (Lcl.own.star (Lcl.rows hB _)) he h1 hk hcs fun w2 h2=>H w2 (h2.by (Tb2.rowB hi))
theorem Tb2.put {KW:Kont World} {i:Nat} {p q:Cell1 × List α} {cs:List Value} (hB:Lcl B) (h:At w F (Star (OwnA q.1.1 E 1 enc q.2) (Star (OwnA v E2 1 sv1 ps) (RowsA E 1 enc (ps.eraseIdx i) B))) w1) (hi:ps[i]? = some p) (hcs:cs=[q.1.1])
  (H:∀w2,At w F (Tb2 v E2 E enc (ps.set i q) B) w2→KW.run w2):@stJ w1 ⟨v.blk,i,none⟩ cs KW:=by
 have hlt:i < ps.length:=(List.getElem?_eq_some_iff.1 hi).1
 exact (h.by Imp.sw).store1 (Lcl.own.star (Lcl.rows hB _)) sv1_len sv1_one hlt (x:=q) hcs fun w2 h2=>H w2 (h2.by (Imp.un (RowsA.back ps i q hlt)))
end
end Go.W
namespace Go.W
open Go
section
variable {α:Type} {enc:α→List Value} {E E2:Nat} {B X:Asr} {w w1:World} {F:List Nat} {v:Value} {ps:List (Cell1 × List α)}
def TabA (v:Value) (E2 E:Nat) (enc:α→List Value) (ps:List (Cell1 × List α)):Asr:=Tb2 v E2 E enc ps Emp
theorem Lcl.tab:Lcl (TabA v E2 E enc ps):=Lcl.tb2 Lcl.emp
theorem Imp.as {A B C:Asr}:Imp (Star (Star A B) C) (Star A (Star B C)):=fun w F h=>Star.assoc h
theorem Imp.as' {A B C:Asr}:Imp (Star A (Star B C)) (Star (Star A B) C):=fun w F h=>Star.assoc' h
theorem Imp.left {A B C:Asr} (h:Imp A B):Imp (Star A C) (Star B C):=by
 rintro w F ⟨Fa,Fb,h1,h2,hd,rfl⟩
 obtain ⟨F',h3,h4⟩:=h w Fa h1
 exact ⟨_,⟨F',Fb,h3,h2,fun x hx=>hd x (h4 x hx),Eq.refl _⟩,fun x hx=>by
  rcases List.mem_append.1 hx with h5 | h5
  ·exact List.mem_append.2 (.inl (h4 x h5))
  ·exact List.mem_append.2 (.inr h5)⟩
theorem Imp.em {X:Asr}:Imp X (Star Emp X):=fun w F h=>⟨[] ++ F,⟨[],F,Eq.refl _,h,by simp,Eq.refl _⟩,fun x hx=>by simpa using hx⟩
theorem RowsA.opn:∀(ps:List (Cell1 × List α)),Imp (Star (RowsA E 1 enc ps Emp) X) (RowsA E 1 enc ps X)
 | []=>Imp.dr
 | p :: ps=>Imp.as.trans (Imp.un (RowsA.opn ps))
theorem RowsA.cls:∀(ps:List (Cell1 × List α)),Imp (RowsA E 1 enc ps X) (Star (RowsA E 1 enc ps Emp) X)
 | []=>Imp.em
 | p :: ps=>(Imp.un (RowsA.cls ps)).trans Imp.as'
theorem TabA.opn:Imp (Star (TabA v E2 E enc ps) X) (Tb2 v E2 E enc ps X):=Imp.as.trans (Imp.un (RowsA.opn ps))
theorem TabA.cls:Imp (Tb2 v E2 E enc ps X) (Star (TabA v E2 E enc ps) X):=(Imp.un (RowsA.cls ps)).trans Imp.as'
theorem TabA.row {i:Nat} {p:Cell1 × List α} (h:At w F (Star (TabA v E2 E enc ps) B) w1) (hi:ps[i]? = some p):Own w1 p.1.1 E 1 enc p.2:=Tb2.row (h.by TabA.opn) hi
theorem TabA.own (h:At w F (Star (TabA v E2 E enc ps) B) w1):Own w1 v E2 1 sv1 ps:=Tb2.own (h.by TabA.opn)
theorem TabA.store {KW:Kont World} {i k:Nat} {p:Cell1 × List α} {x:α} {cs:List Value} (hB:Lcl B) (h:At w F (Star (TabA v E2 E enc ps) B) w1) (hi:ps[i]? = some p) (he:∀x,(enc x).length=1) (h1:∀x,(enc x).all oneC=true) (hk:k < p.2.length) (hcs:cs=enc x)
  (H:∀w2,At w F (Star (TabA v E2 E enc (ps.set i (p.1,p.2.set k x))) B) w2→KW.run w2):@stJ w1 ⟨p.1.1.blk,k,none⟩ cs KW :=
 Tb2.store hB (h.by TabA.opn) hi he h1 hk hcs fun w2 h2=>H w2 (h2.by TabA.cls)
theorem TabA.append {P:Program} {KV:Kont (Value × World)} {T ty by_:Nat} {z:List Value} {i:Nat} {p:Cell1 × List α} (hB:Lcl B) (h:At w F (Star (TabA v E2 E enc ps) B) w1) (hi:ps[i]? = some p) (he:∀x,(enc x).length=1) (h1:∀x,(enc x).all oneC=true)
  (hT:slInfo P T=some (E,1,by_,z)) {a:Addr} {m c:Nat} {xs:List α} (hm:xs.length=m) (hx:∀j u,(xs.flatMap enc)[j]? = some u→w1.cell? (a.add j)=some u)
  (hb:(p.2.length+m) * by_≤140737488355328) (hmax:p.2.length+m≤maxLen)
  (H:∀v' w2,At w F (Star (OwnA v' E 1 enc (p.2 ++ xs)) (Star (OwnA v E2 1 sv1 ps) (RowsA E 1 enc (ps.eraseIdx i) B))) w2→KV.run (v',w2)) :
  @efH P (Builtin.append_ #[T,T] ty [p.1.1,.slice (some a) m c].toArray) w1 KV :=
 At.append (Lcl.own.star (Lcl.rows hB _)) ((h.by TabA.opn).by (Tb2.rowI hi)) he h1 hT hm hx hb hmax H
theorem TabA.put {KW:Kont World} {i:Nat} {p:Cell1 × List α} {u:Value} {l:List α} {cs:List Value} (hB:Lcl B) (h:At w F (Star (OwnA u E 1 enc l) (Star (OwnA v E2 1 sv1 ps) (RowsA E 1 enc (ps.eraseIdx i) B))) w1) (hi:ps[i]? = some p) (hcs:cs=[u])
  (H:∀(ho:oneC u=true) w2,At w F (Star (TabA v E2 E enc (ps.set i (⟨u,ho⟩,l))) B) w2→KW.run w2):@stJ w1 ⟨v.blk,i,none⟩ cs KW :=
 Tb2.put (q:=(⟨u,h.own.o1⟩,l)) hB h hi hcs fun w2 h2=>H h.own.o1 w2 (h2.by TabA.cls)
end
end Go.W
namespace Go.W
open Go
theorem Imp.ow {α:Type} {v:Value} {E sz:Nat} {enc:α→List Value} {l:List α} {X:Asr}:Imp (Star (OwnA v E sz enc l) X) (Star (VwA v enc l) X):=by
 rintro w F ⟨Fa,Fb,⟨h1,e1⟩,h2,hd,e⟩
 subst e e1
 refine ⟨_,⟨v.own,Fb,⟨h1.vw,Eq.refl _,fun x hx=>?_⟩,h2,hd,Eq.refl _⟩,fun x hx=>hx⟩
 rcases h1 with ⟨rfl,_⟩ | ⟨g,cap,cur,junk,rfl,hh,_⟩
 ·cases hx
 ·simp at hx; subst hx; exact lt_of_blk hh
end Go.W
namespace Go.W
variable {X:Asr}
theorem Imp.fr2 {A1 A2:Asr}:Imp (Star A1 (Star A2 X)) (Star A2 (Star A1 X)):=Imp.sw
theorem Imp.bk2 {A1 A2:Asr}:Imp (Star A1 (Star A2 X)) (Star A2 (Star A1 X)):=Imp.sw
theorem Imp.fr3 {A1 A2 A3:Asr}:Imp (Star A1 (Star A2 (Star A3 X))) (Star A3 (Star A1 (Star A2 X))):=(Imp.un Imp.fr2).trans Imp.sw
theorem Imp.bk3 {A1 A2 A3:Asr}:Imp (Star A1 (Star A2 (Star A3 X))) (Star A2 (Star A3 (Star A1 X))):=Imp.sw.trans (Imp.un Imp.bk2)
theorem Imp.fr4 {A1 A2 A3 A4:Asr}:Imp (Star A1 (Star A2 (Star A3 (Star A4 X)))) (Star A4 (Star A1 (Star A2 (Star A3 X)))):=(Imp.un Imp.fr3).trans Imp.sw
theorem Imp.bk4 {A1 A2 A3 A4:Asr}:Imp (Star A1 (Star A2 (Star A3 (Star A4 X)))) (Star A2 (Star A3 (Star A4 (Star A1 X)))):=Imp.sw.trans (Imp.un Imp.bk3)
theorem Imp.fr5 {A1 A2 A3 A4 A5:Asr}:Imp (Star A1 (Star A2 (Star A3 (Star A4 (Star A5 X))))) (Star A5 (Star A1 (Star A2 (Star A3 (Star A4 X))))):=(Imp.un Imp.fr4).trans Imp.sw
theorem Imp.bk5 {A1 A2 A3 A4 A5:Asr}:Imp (Star A1 (Star A2 (Star A3 (Star A4 (Star A5 X))))) (Star A2 (Star A3 (Star A4 (Star A5 (Star A1 X))))):=Imp.sw.trans (Imp.un Imp.bk4)
theorem Imp.fr6 {A1 A2 A3 A4 A5 A6:Asr}:Imp (Star A1 (Star A2 (Star A3 (Star A4 (Star A5 (Star A6 X)))))) (Star A6 (Star A1 (Star A2 (Star A3 (Star A4 (Star A5 X)))))):=(Imp.un Imp.fr5).trans Imp.sw
theorem Imp.bk6 {A1 A2 A3 A4 A5 A6:Asr}:Imp (Star A1 (Star A2 (Star A3 (Star A4 (Star A5 (Star A6 X)))))) (Star A2 (Star A3 (Star A4 (Star A5 (Star A6 (Star A1 X)))))):=Imp.sw.trans (Imp.un Imp.bk5)
theorem Imp.fr7 {A1 A2 A3 A4 A5 A6 A7:Asr}:Imp (Star A1 (Star A2 (Star A3 (Star A4 (Star A5 (Star A6 (Star A7 X))))))) (Star A7 (Star A1 (Star A2 (Star A3 (Star A4 (Star A5 (Star A6 X))))))):=(Imp.un Imp.fr6).trans Imp.sw
theorem Imp.bk7 {A1 A2 A3 A4 A5 A6 A7:Asr}:Imp (Star A1 (Star A2 (Star A3 (Star A4 (Star A5 (Star A6 (Star A7 X))))))) (Star A2 (Star A3 (Star A4 (Star A5 (Star A6 (Star A7 (Star A1 X))))))):=Imp.sw.trans (Imp.un Imp.bk6)
theorem Imp.fr8 {A1 A2 A3 A4 A5 A6 A7 A8:Asr}:Imp (Star A1 (Star A2 (Star A3 (Star A4 (Star A5 (Star A6 (Star A7 (Star A8 X)))))))) (Star A8 (Star A1 (Star A2 (Star A3 (Star A4 (Star A5 (Star A6 (Star A7 X)))))))):=(Imp.un Imp.fr7).trans Imp.sw
theorem Imp.fr9 {A1 A2 A3 A4 A5 A6 A7 A8 A9:Asr}:Imp (Star A1 (Star A2 (Star A3 (Star A4 (Star A5 (Star A6 (Star A7 (Star A8 (Star A9 X))))))))) (Star A9 (Star A1 (Star A2 (Star A3 (Star A4 (Star A5 (Star A6 (Star A7 (Star A8 X))))))))):=(Imp.un Imp.fr8).trans Imp.sw
end Go.W
namespace Go.W
open Go Go.Maps
section
variable {κ:Type} [DecidableEq κ] {ek:κ→Value} {ok:κ→Prop} {P:Program} {k e t:TypeId} {w:World}
theorem look_nil {K:Kont Value} {x:κ} (hk:KeyEnc P k ek ok) (ht:P.underlying t=some (.map k e)) {z:Value} (hz:∀w,(zeroValue e).run P w=.ok z w) (hx:ok x) (H:K.run z):@rdH P (Instr.lookup t (.map none) (ek x) false) w K:=by
 refine rd_mk (fun w' hw=>?_) H
 obtain ⟨lx,hlx⟩:=hk.lit x hx
 rcases MapM.find (w:=w') (w':=w') (b:=0) (ev:=Value.bool) (es:=#[]) (l:=[]) hk rfl (by simp) hx with ⟨h1,h2⟩ | ⟨j,v,e0,h1,h2,h3,h4⟩
 ·simp [Instr.lookup,run_underlying ht,hk.keyed.check w' _ hlx,h1,hz,Result.andThen]
 ·simp at h2
end
end Go.W
namespace Go.W
end Go.W
end
section
namespace Go.Proofs.YtolkjbmcindhjaaGreat
open Go Go.W Go.Tk Go.Rx
theorem sl_nil {v:Value} {α:Type} {enc:α→List Value} {l:List α} {w:World} (h:Vw w v enc l):(v=.slice none 0 0∧l=[])∨∃a cap,v=.slice (some a) l.length cap:=by
 rcases h with h | ⟨a,cap,rfl,_⟩
 ·exact .inl h
 ·exact .inr ⟨a,cap,rfl⟩
theorem cloneI_spec {w:World} (v:Value) (l:List Nat) (hv:Vw w v nE l) (hl:l.length≤1000000) :
  Calls Tryz.prog 51 [v].toArray w fun e w'=>∃u,e=.returned u∧Nw w w' u 3 1 nE l:=by
 refine enter Tryz.func51 mixed low51 (Nat.le_of_ble_eq_true rfl) ?_
 simp only [L51]
 have h0:At w [] Emp w:=At.start rfl
 rcases sl_nil hv with ⟨rfl,rfl⟩ | ⟨a,cap,rfl⟩
 ·simp
  exact Nw.of (At.nil (E:=3) (sz:=1) (enc:=nE) .emp h0)
 ·simp [rowOf]
  have h1:=h0.lit (xs:=([]:List Nat)) (enc:=nE) (E:=3) (sz:=1) (cs:=#[]) (m:=0) .emp (by simp) nE_len (by simp [maxLen]) rfl
  refine At.appendV (xs:=l) .emp h1 (hv.kp0 ((Kp.refl [] w).alloc _)) nE_len nE_one sl_22 (by simp; omega) (by simp; unfold maxLen; omega) fun v' w2 h2=>?_
  simp
  exact Nw.of (by simpa using h2)
theorem cloneF_spec {w:World} (v:Value) (l:List Fc) (hv:Vw w v fcE l) (hl:l.length≤1000000) :
  Calls Tryz.prog 58 [v].toArray w fun e w'=>∃u,e=.returned u∧Nw w w' u 100 2 fcE l:=by
 refine enter Tryz.func58 mixed low58 (Nat.le_of_ble_eq_true rfl) ?_
 simp only [L58]
 have h0:At w [] Emp w:=At.start rfl
 rcases sl_nil hv with ⟨rfl,rfl⟩ | ⟨a,cap,rfl⟩
 ·simp
  exact Nw.of (At.nil (E:=100) (sz:=2) (enc:=fcE) .emp h0)
 ·simp [rowOf]
  have h1:=h0.lit (xs:=([]:List Fc)) (enc:=fcE) (E:=100) (sz:=2) (cs:=#[]) (m:=0) .emp (by simp) fcE_len (by simp [maxLen]) rfl
  refine At.appendV (xs:=l) .emp h1 (hv.kp0 ((Kp.refl [] w).alloc _)) fcE_len fcE_one sl_23 (by simp; omega) (by simp; unfold maxLen; omega) fun v' w2 h2=>?_
  simp
  exact Nw.of (by simpa using h2)
theorem nE_cell {w:World} {v:Value} {l:List Nat} {k x:Nat} (h:Vw w v nE l) (hx:l[k]? = some x):w.cell? (v.adr.add k)=some (.int .i64 (x:Nat)):=by
 simpa using h.at_ nE_len hx (o:=0) (u:=.int .i64 (x:Nat)) rfl
def NoK (l:List Nat) (n k:Nat):Prop:=∀j,j < k→l[j]? ≠ some n
theorem indexI_spec {w:World} (v:Value) (l:List Nat) (n:Nat) (hv:Vw w v nE l) (hl:l.length≤9223372036854775807) :
  Calls Tryz.prog 184 [v,.int .i64 (n:Nat)].toArray w fun e w'=>∃x,e=.returned x∧(∃i:Int,x=.int .i64 i∧decide (0≤i)=decide (n ∈ l))∧Kp [] w w':=by
 refine enter Tryz.func184 mixed low184 (Nat.le_of_ble_eq_true rfl) ?_
 simp only [L184]
 simp [hv.len]
 refine range_loop (n:=l.length) (by omega) (fun k ρ w'=>ρ 0=v∧ρ 1=.int .i64 (n:Nat)∧NoK l n k∧Kp [] w w') (by simp) (by simp)
  ⟨by simp,by simp,fun j hj=>by omega,Kp.refl _ _⟩ (by decide) (fun _ _ _ _ h=>by simpa using h) (fun _ _ _ _ h=>by simpa using h) ?_ ?_
 rotate_left
 ·rintro ρ w4 ⟨g0,g1,hall,k4⟩
  have:n ∉ l:=fun hn=>by
   obtain ⟨j,hj,e⟩:=List.getElem_of_mem hn
   exact hall j hj (by rw [List.getElem?_eq_getElem hj,e])
  simp [this]
  exact k4
 rintro k ρ w4 hk hc hlm ⟨g0,g1,hall,k4⟩
 obtain ⟨x,hx⟩:∃x,l[k]? = some x:=⟨_,List.getElem?_eq_getElem hk⟩
 have hv4:=hv.kp0 k4
 by_cases e:n=x
 ·subst e
  have:n ∈ l:=List.mem_of_getElem? hx
  simp (disch:=omega) [g0,g1,hc,hlm,hv4.idx,nE_cell hv4 hx,this]
  exact k4
 ·have e':((n:Int) == (x:Int))=false:=by simp; omega
  simp (disch:=omega) [g0,g1,hc,hlm,hv4.idx,nE_cell hv4 hx,e']
  refine ⟨fun j hj hq=>?_,k4⟩
  rcases (show j < k∨j=k by omega) with h | h
  ·exact hall j h hq
  ·subst h; rw [hx] at hq; exact e (Option.some.inj hq).symm
theorem containsI_spec {w:World} (v:Value) (l:List Nat) (n:Nat) (hv:Vw w v nE l) (hl:l.length≤9223372036854775807) :
  Calls Tryz.prog 121 [v,.int .i64 (n:Nat)].toArray w fun e w'=>∃x,e=.returned x∧x=.bool (decide (n ∈ l))∧Kp [] w w':=by
 refine enter Tryz.func121 mixed low121 (Nat.le_of_ble_eq_true rfl) ?_
 simp only [L121]
 simp
 refine cl_of (indexI_spec v l n hv hl) ?_
 rintro _ w5 ⟨⟨i,rfl,hi⟩,k5⟩
 simp [hi]
 exact k5
def relO (vv gv fv:Value) (n:Nat) (uv nd fr:Value):Obj:=.cells #[vv,.slice none 0 0,gv,.slice none 0 0,fv,.int .i64 (n:Nat),uv,nd,fr] 133 (0,0)
def fcV (f:Fc):Value:=.agg #[.int .i64 (f.1:Nat),.int .i64 (f.2:Nat)]
def firsts (vars:List Nat) (k:Nat):List Nat:=(List.range k).map (psum vars)
theorem firsts_at {vars:List Nat} {k v:Nat} (h:v < k):(firsts vars k)[v]? = some (psum vars v):=by simp [firsts,h]
theorem number_spec {w:World} {b:Nat} {vv gv fv uv nd fr:Value} {n:Nat} (vars:List Nat) (f:Fc) (ho:w.heap[b]? = some (relO vv gv fv n uv nd fr)) (hf:Vw w fv nE (firsts vars vars.length)) (h1:f.1 < vars.length) (h2:numF vars f≤100000) :
  Calls Tryz.prog 63 [.pointer (some ⟨b,0,none⟩),fcV f].toArray w fun e w'=>∃x,e=.returned x∧x=.int .i64 (numF vars f:Nat)∧Kp [] w w':=by
 refine enter Tryz.func63 mixed low63 (Nat.le_of_ble_eq_true rfl) ?_
 simp only [L63]
 have k1:Kp [] w (w.alloc (.cells #[.int .i64 (f.1:Nat),.int .i64 (f.2:Nat)] 100)):=(Kp.refl [] w).alloc _
 have ho1:=k1.blk ho (by simp)
 unfold relO at ho1
 have ob:(w.alloc (.cells #[.int .i64 (f.1:Nat),.int .i64 (f.2:Nat)] 100)).heap[w.heap.size]? = some (.cells #[.int .i64 (f.1:Nat),.int .i64 (f.2:Nat)] 100 (0,0)):=alloc_new
 have hf1:=hf.kp0 k1
 have hlt:(f.1:Int) < (firsts vars vars.length).length:=by simp [firsts]; omega
 have e:((psum vars f.1:Nat):Int)+(f.2:Nat)=((numF vars f:Nat):Int):=by unfold numF; simp
 obtain ⟨q,hq⟩:∃q,q=numF vars f:=⟨_,rfl⟩
 rw [←hq] at e h2 ⊢
 simp (disch:=omega) [fcV,cell_blk ho1,cell_blk ob,hf1.idx,nE_cell hf1 (firsts_at h1),e,wrap_i64]
 exact k1.drew
end Go.Proofs.YtolkjbmcindhjaaGreat
end
