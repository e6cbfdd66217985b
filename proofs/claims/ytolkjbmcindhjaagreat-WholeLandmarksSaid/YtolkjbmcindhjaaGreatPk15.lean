/-
  A part of the proof of this claim's statement (RxYA, RxYB, RxYC, RxYF, RxYG, RxYK, RxYL, WhPlain): plain theorems; no conditions beyond those each names.
-/
import Derived.Test.YtolkjbmcindhjaaGreatPk14
import Derived.Test.YtolkjbmcindhjaaGreatPk10
set_option maxRecDepth 100000
set_option linter.unusedSimpArgs false
set_option linter.unusedVariables false
set_option linter.unusedSectionVars false
section
namespace Go.Rx
open Go Go.W Go.Tk
def prL:List Nat→Nat
 | []=>1
 | x :: l=>x * prL l
theorem prL_snoc:∀(l:List Nat) (x:Nat),prL (l ++ [x])=prL l * x
 | [],x=>by simp [prL]
 | y :: l,x=>by simp only [List.cons_append,prL,prL_snoc l x,Nat.mul_assoc]
theorem many_le:∀(vars:List Nat) (n:Nat),(∀v ∈ vars,1≤v)→manyF 512 n (vars.map iN)≤512→∀k,n * prL (vars.take k)≤512
 | [],n,_,h,k=>by simpa [manyF,prL] using h
 | x :: l,n,hx,h,k=>by
  have h1:=hx x (by simp)
  simp only [List.map_cons,manyF] at h
  split at h
  ·omega
  ·rename_i hle
   have e:(iN x).toNat=x:=by simp [iN]
   rw [e] at hle h
   have hle:n * min x (512+1)≤512:=by omega
   cases k with
   | zero =>
    have:=Nat.mul_le_mul_left n (show 1≤min x (512+1) by omega)
    simp [prL]; omega
   | succ k =>
    rcases Nat.eq_zero_or_pos n with rfl | hn
    ·simp
    have hm:min x (512+1)=x:=by
     rcases Nat.le_total x 513 with h2 | h2
     ·omega
     ·have:min x (512+1)=513:=by omega
      rw [this] at hle
      omega
    rw [hm] at h
    have:=many_le l (n * x) (fun v hv=>hx v (by simp [hv])) h k
    simpa [List.take_succ_cons,prL,Nat.mul_assoc] using this
theorem unsK_len8 {t:Nt} {cost:Nat→Nat} (h:∀o ∈ t.ops,o.effs.length≤8):∀n,(unsK t cost n).length≤8 * n
 | 0=>by simp [unsK]
 | n+1=>by
  have:=unsK_len8 (cost:=cost) h n
  cases ho:t.ops[n]? with
  | none =>
   unfold unsK at *
   rw [List.range_succ,List.flatMap_append]
   simp [ho] at this ⊢
   omega
  | some o =>
   rw [unsK_succ ho,List.length_append,opU_len]
   have:=h o (List.mem_of_getElem? ho)
   omega
structure SmT (T:Nt):Prop where
 g:NtG T
 good:goodB T.raw=true
 vl:T.vars.length≤12
 ol:T.ops.length≤20
 el:∀o ∈ T.ops,o.effs.length≤8
 pr:∀k,prL (T.vars.take k)≤512
 nm:∀o ∈ T.ops,o.name.size≤9223372036854775807
theorem small_nat {t:Tk} (hl:TkL t) (h:smallB t=true):∃T:Nt,T.raw=t∧SmT T:=by
 unfold smallB at h
 simp only [Bool.and_eq_true,decide_eq_true_eq] at h
 obtain ⟨⟨⟨⟨h1,h2⟩,h3⟩,h4⟩,h5⟩:=h
 obtain ⟨T,rfl,hg⟩:=good_nat h4
 rw [List.all_eq_true] at h3
 refine ⟨T,rfl,hg,h4,by simpa [Nt.raw] using h1,by simpa [Nt.raw] using h2,fun o ho=>?_,fun k=>?_,fun o ho=>?_⟩
 ·have:=h3 o.raw (List.mem_map.2 ⟨o,ho,rfl⟩)
  simpa [No.raw] using this
 ·have:=many_le T.vars 1 (fun v hv=>(hg.vars v hv).1) h5 k
  simpa using this
 ·exact (hl.op o.raw (List.mem_map.2 ⟨o,ho,rfl⟩)).1
end Go.Rx
namespace Go.Proofs.YtolkjbmcindhjaaGreat
open Go Go.W Go.Tk Go.Rx Go.Maps
theorem stsK_len {vars:List Nat}:∀k,k≤vars.length→(stsK vars k).length=prL (vars.take k)
 | 0,_=>by simp [stsK,prL]
 | k+1,hk=>by
  obtain ⟨n,hn⟩:∃n,vars[k]? = some n:=⟨_,List.getElem?_eq_getElem (by omega)⟩
  have key:∀(l:List (List Nat)),(l.flatMap (extS (vars.getD k 0))).length=l.length * vars.getD k 0:=by
   intro l
   induction l with
   | nil=>simp
   | cons a l ih=>rw [List.flatMap_cons,List.length_append,ih,extS_len,List.length_cons,Nat.add_mul]; omega
  have e:stsK vars (k+1)=(stsK vars k).flatMap (extS (vars.getD k 0)):=rfl
  rw [take_snoc hn,prL_snoc,←stsK_len k (by omega),e,key]
  simp [List.getD,hn]
theorem SmT.sts {T:Nt} (h:SmT T):∀k,k≤T.vars.length→(stsK T.vars k).length≤10000:=fun k hk=>by
 rw [stsK_len k hk]
 have:=h.pr k
 omega
theorem SmT.sm {T:Nt} (h:SmT T) {c:Nat→Nat} (hc:∀i,i < T.ops.length→c i≤1048576):Sm T.vars (uns T c):={
 un:={
  nod:=fun u hu=>by
   obtain ⟨i,o,k,e,_,_,_,rfl⟩:=uns_mem hu
   exact dedup_nodup _
  rng:=fun u hu n hn=>by
   obtain ⟨i,o,k,e,hi,ho,he,rfl⟩:=uns_mem hu
   have hgo:=h.g.ops o (List.mem_of_getElem? ho)
   obtain ⟨f,hf,rfl⟩:=List.mem_map.1 (dedup_mem.1 hn)
   rcases List.mem_append.1 hf with h1 | h1
   ·obtain ⟨a,b⟩:=hgo.pre.rng f h1; exact numF_lt a b
   ·obtain ⟨a,b⟩:=(hgo.cnd e (List.mem_of_getElem? he)).rng f h1; exact numF_lt a b
  made:=fun u hu=>by
   obtain ⟨i,o,k,e,hi,ho,he,rfl⟩:=uns_mem hu
   obtain ⟨a,b⟩:=(h.g.ops o (List.mem_of_getElem? ho)).eff e (List.mem_of_getElem? he)
   exact numF_lt a b
  cost:=fun u hu=>by
   obtain ⟨i,o,k,e,hi,ho,he,rfl⟩:=uns_mem hu
   exact hc i hi
  op:=fun u hu=>by
   obtain ⟨i,o,k,e,hi,ho,he,rfl⟩:=uns_mem hu
   have:=h.ol
   show i≤4096
   omega }
 vl:=h.vl
 sm:=by
  have:=sum_le (N:=64) fun n hn=>(h.g.vars n hn).2
  have:=h.vl
  omega
 ul:=by
  have:=unsK_len8 (cost:=c) h.el T.ops.length
  have:=h.ol
  show (unsK T c T.ops.length).length≤160
  omega }
structure CsOk (T:Nt) (cs:List Int):Prop where
 len:cs.length=0∨cs.length=T.ops.length
 rng:∀c ∈ cs,0≤c∧c≤1048576
theorem CsOk.cst {T:Nt} {cs:List Int} (h:CsOk T cs) (hg:NtG T) (i:Nat) (hi:i < T.ops.length):cst T cs i≤1048576:=by
 unfold Go.Proofs.YtolkjbmcindhjaaGreat.cst
 split
 ·obtain ⟨o,ho⟩:∃o,T.ops[i]? = some o:=⟨_,List.getElem?_eq_getElem hi⟩
  rw [ho]
  exact (hg.ops o (List.mem_of_getElem? ho)).cost
 ·rename_i hn
  rcases h.len with h1 | h1
  ·exact absurd h1 hn
  have hi2:i < cs.length:=by omega
  have:=h.rng cs[i] (List.getElem_mem hi2)
  simp only [List.getD,List.getElem?_eq_getElem hi2,Option.getD_some]
  omega
theorem CsOk.nil {T:Nt}:CsOk T []:=⟨.inl rfl,by simp⟩
def Rlx (b:Nat) (T:Nt) (U:List Un) (w:World):Prop:=∃vv gv fv uv nd fr rs ps,RlR b T.vars T.goal U vv gv fv uv nd fr rs ps w
theorem Rlx.kp {b:Nat} {T:Nt} {U:List Un} {w w':World} (h:Rlx b T U w) (k:Kp [] w w'):Rlx b T U w':=by
 obtain ⟨vv,gv,fv,uv,nd,fr,rs,ps,h⟩:=h
 exact ⟨vv,gv,fv,uv,nd,fr,rs,ps,h.kp k⟩
theorem new_ok {w:World} (T:Nt) (cv:Value) (cs:List Int) (hs:SmT T) (hr:NtR w T) (hc:Vw w cv iE cs) (hok:CsOk T cs) :
  Calls Tryz.prog 19 [ntV T,cv].toArray w fun e w'=>∃x,e=.returned x∧∃b,x=.tuple #[.pointer (some ⟨b,0,none⟩),.nilIface]∧Rlx b T (uns T (cst T cs)) w'∧Kp [] w w':=by
 have hol:=hs.ol
 refine Calls.mono (rNew_good T cv cs hs.g hs.good hr hs.nm hc (by rcases hok.len with h | h <;> omega)) ?_
 rintro e w' ⟨x,rfl,hx⟩
 refine ⟨x,rfl,?_⟩
 have hn:nwC T.raw cs=none:=by
  unfold nwC
  rw [(chk_good T.raw).2 hs.good]
  have h1:¬(0 < cs.length∧cs.length≠T.raw.ops.length):=by
   have:T.raw.ops.length=T.ops.length:=by simp [Nt.raw]
   rcases hok.len with h | h <;> omega
  have h2:cs.all cOk=true:=by
   rw [List.all_eq_true]
   intro c hc
   have:=hok.rng c hc
   simp [cOk]; omega
  rw [if_neg h1,if_neg (by rw [h2]; simp)]
 unfold NwP at hx
 rw [hn] at hx
 obtain ⟨b,vv,gv,fv,tb,rfl,h⟩:=hx
 obtain ⟨uv,nd,fr,rs,ps,h2⟩:=h.rd
 exact ⟨b,rfl,⟨vv,gv,fv,uv,nd,fr,rs,ps,h2⟩,h.kp⟩
end Go.Proofs.YtolkjbmcindhjaaGreat
end
section
namespace Go.Proofs.YtolkjbmcindhjaaGreat
open Go Go.W Go.Tk Go.Rx Go.Maps
section
variable {w:World} {b:Nat} {T:Nt} {U:List Un}
theorem rl_max (sv:Value) (s:List Nat) (hR:Rlx b T U w) (hg:NtG T) (hs:Vw w sv nE s) (hst:StN T.vars s) (hS:Sm T.vars U) :
  Calls Tryz.prog 23 [.pointer (some ⟨b,0,none⟩),sv].toArray w fun e w'=>∃x,e=.returned x∧∃V,IsVal U (stN T.vars s T.vars.length) V∧x=.int .i64 (grF T.vars V T.goal:Nat)∧Kp [] w w':=by
 obtain ⟨vv,gv,fv,uv,nd,fr,rs,ps,h⟩:=hR
 exact max_ok sv s h hg.goal hs hst hS
theorem rl_reached (sv wv:Value) (s:List Nat) (ws:List Int) (hR:Rlx b T U w) (hg:NtG T) (hs:Vw w sv nE s) (hw:Vw w wv iE ws) (hwl:ws.length≤1000) (hwr:∀z ∈ ws,zok z) (hst:StN T.vars s) (hS:Sm T.vars U) :
  Calls Tryz.prog 26 [.pointer (some ⟨b,0,none⟩),sv,wv].toArray w fun e w'=>∃x,e=.returned x∧∃V,IsVal (allow (okL ws) U) (stN T.vars s T.vars.length) V∧x=.bool (decide (grF T.vars V T.goal < Inf))∧Kp [] w w':=by
 obtain ⟨vv,gv,fv,uv,nd,fr,rs,ps,h⟩:=hR
 exact reached_ok sv wv s ws h hg.goal hs hw hwl hwr hst hS
end
theorem lone {α:Type} {enc:α→List Value} {v:Value} {l:List α} {X:Asr} (ho:oneC v=true):Imp (Star (VwA v enc l) X) (Star (VwsA enc [((⟨v,ho⟩,l):Cell1 × List α)]) X):=by
 rintro w F ⟨Fa,Fb,⟨h1,e1,h2⟩,h3,hd,rfl⟩
 exact ⟨_,⟨Fa,Fb,⟨fun p hp=>by simp at hp; subst hp; exact h1,fun x hx=>h2 x (by rw [←e1]; exact hx),by simpa using e1⟩,h3,hd,rfl⟩,fun x hx=>hx⟩
end Go.Proofs.YtolkjbmcindhjaaGreat
end
section
namespace Go.Proofs.YtolkjbmcindhjaaGreat
open Go Go.W Go.Tk Go.Rx Go.Maps
theorem raw_vv (T:Nt):T.raw.vv=T.vv:=rfl
theorem raw_nv (T:Nt):T.raw.nv=T.nv:=rfl
theorem raw_gv (T:Nt):T.raw.gv=T.gv:=rfl
theorem raw_ov (T:Nt):T.raw.ov=T.ov:=rfl
end Go.Proofs.YtolkjbmcindhjaaGreat
end
section
namespace Go.Proofs.YtolkjbmcindhjaaGreat
open Go Go.W Go.Tk Go.Rx Go.Maps
theorem stN_sum {vars s:List Nat} (h:StN vars s):∀x ∈ stN vars s vars.length,x < vars.sum:=fun x hx=>by
 unfold stN at hx
 obtain ⟨v,hv,rfl⟩:=List.mem_map.1 hx
 have hv:=List.mem_range.1 hv
 exact numF_lt (f:=(v,s.getD v 0)) hv (h.rng v hv)
end Go.Proofs.YtolkjbmcindhjaaGreat
end
section
namespace Go.Proofs.YtolkjbmcindhjaaGreat
open Go Go.W Go.Tk Go.Rx Go.Maps
theorem mem_getD {l:List Nat} {i:Nat} (hi:i < l.length):l.getD i 0 ∈ l:=by simp [List.getD,List.getElem?_eq_getElem hi]
end Go.Proofs.YtolkjbmcindhjaaGreat
end
section
namespace Go.Proofs.YtolkjbmcindhjaaGreat
open Go Go.W Go.Tk Go.Rx Go.Maps
abbrev Ed:=Nat × Nat × Nat
def edE (e:Ed):List Value:=[.int .i64 (e.1:Nat),.int .i64 (e.2.1:Nat),.int .i64 (e.2.2:Nat)]
theorem edE_len (e:Ed):(edE e).length=3:=rfl
theorem edE_one (e:Ed):(edE e).all oneC=true:=rfl
theorem apK_st {vars:List Nat} {o:No} {s:List Nat} (hs:StN vars s) (ho:NoG vars o):∀k,k≤o.effs.length→StN vars (apK o s k)
 | 0,_=>by simpa [apK] using hs
 | k+1,hk=>by
  obtain ⟨e,he⟩:∃e,o.effs[k]? = some e:=⟨_,List.getElem?_eq_getElem (by omega)⟩
  have ih:=apK_st hs ho k (by omega)
  rw [apK_succ he]
  split
  ·obtain ⟨e1,e2⟩:=ho.eff e (List.mem_of_getElem? he)
   refine ⟨by rw [List.length_set]; exact ih.len,fun v hv=>?_⟩
   by_cases h:v=e.v
   ·subst h
    simp only [List.getD,List.getElem?_set_self (show e.v < (apK o s k).length by rw [ih.len]; exact e1),Option.getD_some]
    exact e2
   ·have:=ih.rng v hv
    simpa only [List.getD,List.getElem?_set_ne (Ne.symm h)] using this
  ·exact ih
theorem apS_st {vars:List Nat} {o:No} {s:List Nat} (hs:StN vars s) (ho:NoG vars o):StN vars (apS o s):=apK_st hs ho _ (Nat.le_refl _)
theorem flat_at {α β:Type} {f:α→List β} {n:Nat} (hf:∀a,(f a).length=n):∀(l:List α) (i x:Nat) (a:α),l[i]? = some a→x < n→(l.flatMap f)[i * n+x]? = (f a)[x]?
 | [],i,x,a,h,_=>by simp at h
 | b :: l,0,x,a,h,hx=>by
  simp at h; subst h
  rw [List.flatMap_cons,Nat.zero_mul,Nat.zero_add,List.getElem?_append_left (by rw [hf]; exact hx)]
 | b :: l,i+1,x,a,h,hx=>by
  rw [List.flatMap_cons,List.getElem?_append_right (by rw [hf,Nat.add_mul]; omega),hf]
  have:(i+1) * n+x - n=i * n+x:=by rw [Nat.add_mul]; omega
  rw [this]
  exact flat_at hf l i x a (by simpa using h) hx
theorem rk_at {vars s:List Nat} (hs:StN vars s):∀k,k≤vars.length→(stsK vars k)[rkK vars s k]? = some (s.take k)
 | 0,_=>by simp [stsK,rkK]
 | k+1,hk=>by
  have ih:=rk_at hs k (by omega)
  have hr:=hs.rng k (by omega)
  have e:stsK vars (k+1)=(stsK vars k).flatMap (extS (vars.getD k 0)):=rfl
  have hsk:s[k]? = some (s.getD k 0):=by
   have:k < s.length:=by rw [hs.len]; omega
   simp [List.getD,List.getElem?_eq_getElem this]
  rw [e]
  show (List.flatMap _ _)[rkK vars s k * vars.getD k 0+s.getD k 0]? = _
  rw [flat_at (fun a=>extS_len _ a) _ _ _ _ ih hr]
  unfold extS
  rw [List.getElem?_map,List.getElem?_range hr,take_snoc hsk]
  rfl
theorem rk_all {vars s:List Nat} (hs:StN vars s):(stsK vars vars.length)[rkK vars s vars.length]? = some s:=by
 have:=rk_at hs vars.length (Nat.le_refl _)
 rwa [List.take_of_length_le (by rw [hs.len]; exact Nat.le_refl _)] at this
theorem rk_sm {T:Nt} {s:List Nat} (hT:SmT T) (hs:StN T.vars s) (k:Nat) (hk:k≤T.vars.length):rkK T.vars s k < 512:=by
 have h1:=(List.getElem?_eq_some_iff.1 (rk_at hs k hk)).1
 rw [stsK_len k hk] at h1
 have:=hT.pr k
 omega
theorem sts512 {T:Nt} (hT:SmT T):(stsK T.vars T.vars.length).length≤512:=by rw [stsK_len _ (Nat.le_refl _)]; exact hT.pr _
def edS (T:Nt) (i:Nat) (s:List Nat):Nat→List Ed
 | 0=>[]
 | q+1=>edS T i s q ++ match T.ops[q]? with | some o=>if hdB s o.pre then [(i,q,rkK T.vars (apS o s) T.vars.length)] else [] | none=>[]
def edK (T:Nt):Nat→List Ed
 | 0=>[]
 | i+1=>edK T i ++ match (stsK T.vars T.vars.length)[i]? with | some s=>edS T i s T.ops.length | none=>[]
theorem edS_len (T:Nt) (i:Nat) (s:List Nat):∀q,(edS T i s q).length≤q
 | 0=>by simp [edS]
 | q+1=>by
  have:=edS_len T i s q
  unfold edS
  rw [List.length_append]
  split
  ·split <;> simp <;> omega
  ·simp; omega
theorem edK_len (T:Nt):∀i,(edK T i).length≤i * T.ops.length
 | 0=>by simp [edK]
 | i+1=>by
  have:=edK_len T i
  unfold edK
  rw [List.length_append,Nat.add_mul,Nat.one_mul]
  split
  ·rename_i s _
   have:=edS_len T i s T.ops.length
   omega
  ·simp; omega
theorem edS_mem {T:Nt} {i:Nat} {s:List Nat} {e:Ed}:∀{q},e ∈ edS T i s q→e.1=i∧∃o,T.ops[e.2.1]? = some o∧hdB s o.pre=true∧e.2.2=rkK T.vars (apS o s) T.vars.length
 | 0,h=>by simp [edS] at h
 | q+1,h=>by
  unfold edS at h
  rcases List.mem_append.1 h with h | h
  ·exact edS_mem h
  ·split at h
   ·rename_i o ho
    split at h
    ·rename_i hp
     simp at h; subst h
     exact ⟨rfl,o,ho,hp,rfl⟩
    ·simp at h
   ·simp at h
theorem edK_mem {T:Nt} {e:Ed}:∀{n},e ∈ edK T n→∃s o,(stsK T.vars T.vars.length)[e.1]? = some s∧T.ops[e.2.1]? = some o∧hdB s o.pre=true∧e.2.2=rkK T.vars (apS o s) T.vars.length
 | 0,h=>by simp [edK] at h
 | n+1,h=>by
  unfold edK at h
  rcases List.mem_append.1 h with h | h
  ·exact edK_mem h
  ·split at h
   ·rename_i s hs
    obtain ⟨h1,o,h2,h3,h4⟩:=edS_mem h
    exact ⟨s,o,by rw [h1]; exact hs,h2,h3,h4⟩
   ·simp at h
def edA (T:Nt):List Ed:=edK T (stsK T.vars T.vars.length).length
theorem ed_append {w w1:World} {F:List Nat} {B:Asr} {ov:Value} {l:List Ed} {x:Ed} {KV:Kont (Value × World)} (hB:Lcl B) (h:At w F (Star (OwnA ov 116 3 edE l) B) w1) (hl:l.length≤1000000)
  (H:∀v' w2,At w F (Star (OwnA v' 116 3 edE (l ++ [x])) B) w2→KV.run (v',w2)) :
  @efH Tryz.prog (Builtin.append_ #[113,113] 113 [ov,.slice (some ⟨w1.heap.size,0,none⟩) 1 1].toArray) (w1.alloc (.cells #[.int .i64 (x.1:Nat),.int .i64 (x.2.1:Nat),.int .i64 (x.2.2:Nat)] 116)) KV:=by
 have h4:=h.kp0 (Lcl.own.star hB) ((Kp.refl [] w1).alloc (.cells #[.int .i64 (x.1:Nat),.int .i64 (x.2.1:Nat),.int .i64 (x.2.2:Nat)] 116))
 refine At.append (xs:=[x]) hB h4 edE_len edE_one sl_113 rfl (fun j u hj=>?_) (by omega) (by unfold maxLen; omega) fun v' w5 h5=>H v' w5 h5
 rw [add_none,cell_blk alloc_new]
 simpa [edE] using hj
set_option maxHeartbeats 1000000 in
theorem edges_spec {w:World} (T:Nt) (hr:NtR w T) (hT:SmT T) :
  Calls Tryz.prog 54 [ntV T].toArray w fun e w'=>∃u,e=.returned u∧At w [] (Star (OwnA u 116 3 edE (edA T)) Emp) w':=by
 refine enter Tryz.func54 mixed low54 (Nat.le_of_ble_eq_true rfl) ?_
 simp only [L54]
 have hg:=hT.g
 have hol:=hT.ol
 have hvl:=hT.vl
 obtain ⟨b,hb⟩:∃b,b=w.heap.size:=⟨_,rfl⟩
 have h1:At w [] (Star (ObjA b (ntO T)) Emp) (w.alloc (ntO T)):=by rw [hb]; exact (At.start rfl).alloc _ .emp
 obtain ⟨w1,hw1⟩:∃w1,w1=w.alloc (ntO T):=⟨_,rfl⟩
 rw [←hw1] at h1
 have hw1':w.alloc (.cells #[T.vv.1,T.nv.1,T.gv.1,T.ov.1] 26 (0,0))=w1:=by rw [hw1]; rfl
 have hob:=h1.obj
 unfold ntO at hob
 have hr1:=hr.kp h1.kp
 simp [ntV,←hb,hw1',cell_blk hob]
 refine cl_of (states_spec T.vv.1 T.vars hr1.vars (by omega) (fun n hn=>by have:=hg.vars n hn; omega) (SmT.sts hT) (fun k hk s hs=>by have:=(sts_ok k hk s hs).1; omega)) ?_
 rintro all w2 h2
 have hls:=LLA.vw h2
 have h3:=At.nil (E:=116) (sz:=3) (enc:=edE) .emp (At.start rfl:At w2 [] Emp w2)
 have k2:=h1.kp.trans0 h2.kp
 have ob2:=h2.kp.blk hob (by simp)
 have hr2:=hr.kp k2
 obtain ⟨ps,hpl,hpv,hpr⟩:=hls.spread
 have h512:=sts512 hT
 simp [hpv.len]
 refine range_loop (n:=ps.length) (by omega) (fun i ρ w'=>ρ 1=.pointer (some ⟨b,0,none⟩)∧ρ 11=all∧At w2 [] (Star (OwnA (ρ 3) 116 3 edE (edK T i)) Emp) w') (by simp) (by simp)
  ⟨by simp,by simp,by simpa [edK] using h3⟩ (by decide) (fun _ _ _ _ h=>by simpa using h) (fun _ _ _ _ h=>by simpa using h) ?_ ?_
 rotate_left
 ·rintro ρ w4 ⟨g1,g11,h4⟩
  rw [hpl] at h4
  simp
  obtain ⟨⟨F,hF,hs⟩,k⟩:=h4
  refine ⟨⟨F,hF,fun x hx=>?_⟩,k2.trans0 k⟩
  rcases hs x hx with h | h
  ·cases h
  ·have:=k2.size; exact .inr (by omega)
 rintro i ρ w4 hi hci hli ⟨g1,g11,h4⟩
 obtain ⟨p,hp⟩:∃p,ps[i]? = some p:=⟨_,List.getElem?_eq_getElem hi⟩
 obtain ⟨s,hsk,hsv⟩:=hpr i p hp
 have hst:=sts_st (List.mem_of_getElem? hsk)
 have hpv4:=hpv.kp0 h4.kp
 have ep:w4.cell? (all.adr.add i)=some p.1.1:=by simpa using hpv4.at_ sv1_len hp (o:=0) (u:=p.1.1) rfl
 have hki:(i:Int) < ps.length:=by omega
 have ob4:=h4.kp.blk ob2 (by simp)
 simp (disch:=omega) [g1,g11,hci,hli,hpv4.idx,ep,cell_blk ob4,(hr2.kp h4.kp).ops.len]
 refine range_loop (n:=T.ops.length) (by omega) (fun q ρ w'=>ρ 1=.pointer (some ⟨b,0,none⟩)∧ρ 11=all∧ρ 12=.int .i64 (ps.length:Nat)∧ρ 13=.int .i64 (i:Nat)∧ρ 4=.int .i64 (i:Nat)∧ρ 5=p.1.1∧At w2 [] (Star (OwnA (ρ 3) 116 3 edE (edK T i ++ edS T i s q)) Emp) w') (by simp) (by simp)
  ⟨by simp [g1],by simp [g11],by simp [hli],by simp [hci],by simp,by simp,by simpa [edS] using h4⟩ (by decide) (fun _ _ _ _ h=>by simpa using h) (fun _ _ _ _ h=>by simpa using h) ?_ ?_
 rotate_left
 ·clear g1 g11 hci hli h4
  rintro ρ w5 ⟨g1,g11,g12,g13,g4,g5,h5⟩
  have e:edK T (i+1)=edK T i ++ edS T i s T.ops.length:=by
   show edK T i ++ _=_
   rw [hsk]
  simp [g1,g11,g12,g13]
  rw [e]
  exact h5
 clear g1 g11 hci hli h4 hpv4 ep ob4
 rintro q ρ w5 hq hcq hlq ⟨g1,g11,g12,g13,g4,g5,h5⟩
 obtain ⟨o,ho⟩:∃o,T.ops[q]? = some o:=⟨_,List.getElem?_eq_getElem hq⟩
 have hog:=hg.ops o (List.mem_of_getElem? ho)
 have ob5:=h5.kp.blk ob2 (by simp)
 have rt:cellsAt w5 ⟨b,0,none⟩ 0 4=some [T.vv.1,T.nv.1,T.gv.1,T.ov.1]:=by simp [cellsAt,Addr.add,cell_blk ob5]
 have hl1:=edK_len T i
 have hl2:=edS_len T i s q
 have hl3:i * T.ops.length≤512 * 20:=Nat.mul_le_mul (by omega) hol
 simp [g1,g5,hcq,rt]
 refine cl_of (apply_spec T p.1.1 s q o (hr2.kp h5.kp) hg ho (hsv.kp0 h5.kp) hst) ?_
 rintro x w6 hx
 unfold apV at hx
 by_cases hh:hdB s o.pre=true
 ·rw [if_pos hh] at hx
  obtain ⟨u,rfl,n6⟩:=hx
  have h6:=h5.kp0 (Lcl.own.star .emp) n6.kp
  have ob6:=h6.kp.blk ob2 (by simp)
  have hst2:=apS_st hst hog
  have hlen2:=hst2.len
  simp [g1,g4,cell_blk ob6]
  refine cl_of (rank_spec T.vv.1 u T.vars (apS o s) (hr2.kp h6.kp).vars n6.own.vw hlen2 (by omega) (fun k hk=>by have:=rk_sm hT hst2 k (by omega); omega)) ?_
  rintro _ w7 ⟨rfl,k7⟩
  rw [hlen2]
  have h7:=h6.kp0 (Lcl.own.star .emp) k7
  obtain ⟨rk,hrk⟩:∃rk,rk=rkK T.vars (apS o s) T.vars.length:=⟨_,rfl⟩
  rw [←hrk]
  have e:edS T i s (q+1)=edS T i s q ++ [(i,q,rk)]:=by
   show edS T i s q ++ _=_
   rw [ho]
   simp only [if_pos hh,hrk]
  simp [g4,hcq,rowOf]
  refine ed_append (x:=(i,q,rk)) .emp h7 (by rw [List.length_append]; omega) fun v' w8 h8=>?_
  simp [g1,g11,g12,g13,g4,g5,hcq,hlq]
  rw [e,←List.append_assoc]
  exact h8
 ·rw [if_neg hh] at hx
  obtain ⟨rfl,k6⟩:=hx
  have e:edS T i s (q+1)=edS T i s q:=by
   show edS T i s q ++ _=_
   rw [ho]
   simp only [if_neg hh,List.append_nil]
  simp [g1,g11,g12,g13,g4,g5,hcq,hlq]
  rw [e]
  exact h5.kp0 (Lcl.own.star .emp) k6
end Go.Proofs.YtolkjbmcindhjaaGreat
end
section
namespace Go.Rx
open Go Go.W Go.Tk
structure Low (es:List (Nat × Nat × Nat)) (c:Nat→Nat) (G:Nat→Bool) (H:Nat→Nat):Prop where
 le:∀i,H i≤Inf
 z:∀i,G i=true→H i=0
 st:∀e ∈ es,H e.1≤H e.2.2+c e.2.1
structure Dok (es:List (Nat × Nat × Nat)) (c:Nat→Nat) (G:Nat→Bool) (d:List Nat):Prop where
 z0:∀i,i < d.length→G i=true→d.getD i 0=0
 le:∀i,i < d.length→d.getD i 0≤Inf
 low:∀H,Low es c G H→∀i,i < d.length→H i≤d.getD i 0
def DClo (es:List (Nat × Nat × Nat)) (c:Nat→Nat) (d:List Nat):Prop:=∀e ∈ es,d.getD e.2.2 0 < Inf→d.getD e.1 0≤d.getD e.2.2 0+c e.2.1
theorem getD_set_same {d:List Nat} {i x:Nat} (h:i < d.length):(d.set i x).getD i 0=x:=by simp [List.getD,List.getElem?_set_self h]
theorem getD_set_ne {d:List Nat} {i j x:Nat} (h:i≠j):(d.set i x).getD j 0=d.getD j 0:=by simp only [List.getD,List.getElem?_set_ne h]
theorem sum_set_lt:∀{d:List Nat} {i x:Nat},i < d.length→x < d.getD i 0→(d.set i x).sum < d.sum
 | [],i,x,h,_=>by simp at h
 | a :: d,0,x,_,h=>by
  simp at h
  simp [List.sum_cons]; exact h
 | a :: d,i+1,x,h,h2=>by
  have:=sum_set_lt (d:=d) (i:=i) (x:=x) (by simpa using h) (by simpa using h2)
  simp [List.sum_cons]; exact this
theorem Dok.step {es:List (Nat × Nat × Nat)} {c:Nat→Nat} {G:Nat→Bool} {d:List Nat} {e:Nat × Nat × Nat} (h:Dok es c G d) (he:e ∈ es) (hf:e.1 < d.length) (ht:e.2.2 < d.length) (hlt:d.getD e.2.2 0+c e.2.1 < d.getD e.1 0):Dok es c G (d.set e.1 (d.getD e.2.2 0+c e.2.1)):={
 z0:=fun i hi hG=>by
  rw [List.length_set] at hi
  by_cases hie:e.1=i
  ·subst hie
   have:=h.z0 _ hf hG
   omega
  ·rw [getD_set_ne hie]; exact h.z0 i hi hG
 le:=fun i hi=>by
  rw [List.length_set] at hi
  by_cases hie:e.1=i
  ·subst hie
   rw [getD_set_same hf]
   have:=h.le _ hf
   omega
  ·rw [getD_set_ne hie]; exact h.le i hi
 low:=fun H hH i hi=>by
  rw [List.length_set] at hi
  by_cases hie:e.1=i
  ·subst hie
   rw [getD_set_same hf]
   have h1:=hH.st e he
   have h2:=h.low H hH e.2.2 ht
   omega
  ·rw [getD_set_ne hie]; exact h.low H hH i hi }
end Go.Rx
namespace Go.Proofs.YtolkjbmcindhjaaGreat
open Go Go.W Go.Tk Go.Rx Go.Maps
def edO (e:Ed):Obj:=.cells #[.int .i64 (e.1:Nat),.int .i64 (e.2.1:Nat),.int .i64 (e.2.2:Nat)] 116 (0,0)
theorem st_ed {wa w:World} {F:List Nat} {X:Asr} {KW:Kont World} {e:Ed} {b:Nat} (hX:Lcl X) (h:At w F X wa) (hb:b=wa.heap.size) (H:∀w2,At w F (Star (ObjA b (edO e)) X) w2→KW.run w2) :
  @stJ (wa.alloc (.cells #[.int .i64 0,.int .i64 0,.int .i64 0] 116 (0,0))) ⟨b,0,none⟩ [.int .i64 (e.1:Nat),.int .i64 (e.2.1:Nat),.int .i64 (e.2.2:Nat)] KW:=by
 have h1:At w F (Star (ObjA b (.cells #[.int .i64 0,.int .i64 0,.int .i64 0] 116 (0,0))) X) (wa.alloc (.cells #[.int .i64 0,.int .i64 0,.int .i64 0] 116 (0,0))):=by rw [hb]; exact h.alloc _ hX
 exact h1.st hX (by simp) (by simp) fun w2 h2=>H w2 (by simpa [edO] using h2)
def goalB (T:Nt) (i:Nat):Bool:=match (stsK T.vars T.vars.length)[i]? with | some s=>hdB s T.goal | none=>false
def d0 (T:Nt) (i:Nat):Nat:=if goalB T i=true then 0 else Inf
theorem d0_ok (T:Nt) (es:List Ed) (c:Nat→Nat) (n:Nat):Dok es c (goalB T) (tabN n (d0 T)):={
 z0:=fun i hi h=>by
  rw [tabN_len] at hi
  simp only [List.getD,tabN_at hi,Option.getD_some]
  unfold d0; rw [if_pos h]
 le:=fun i hi=>by
  rw [tabN_len] at hi
  simp only [List.getD,tabN_at hi,Option.getD_some]
  unfold d0; split
  ·omega
  ·exact Nat.le_refl _
 low:=fun H hH i hi=>by
  rw [tabN_len] at hi
  simp only [List.getD,tabN_at hi,Option.getD_some]
  unfold d0; split
  ·rename_i h; rw [hH.z i h]; exact Nat.le_refl _
  ·exact hH.le i }
def CvOk (T:Nt) (cv:Value) (c:Nat→Nat) (w:World):Prop:=(cv=.slice none 0 0∧∀i o,T.ops[i]? = some o→c i=o.cost)∨∃cl a cap,cv=.slice (some a) cl.length cap∧Vw w cv nE cl∧cl.length=T.ops.length∧∀i,c i=cl.getD i 0
theorem CvOk.kp {T:Nt} {cv:Value} {c:Nat→Nat} {w w':World} (h:CvOk T cv c w) (k:Kp [] w w'):CvOk T cv c w':=by
 rcases h with h | ⟨cl,a,cap,h1,h2,h3⟩
 ·exact .inl h
 ·exact .inr ⟨cl,a,cap,h1,h2.kp0 k,h3⟩
def DsI (T:Nt) (cv dv ev:Value) (b:Nat) (c:Nat→Nat) (N:Nat) (w:World) (n:Nat) (ρ:Env) (w':World):Prop :=
 ρ 1=cv∧ρ 2=.pointer (some ⟨b,0,none⟩)∧ρ 6=dv∧ρ 9=ev∧∃d ch,ρ 10=.bool ch∧d.length=N∧Dok (edA T) c (goalB T) d∧(ch=false→DClo (edA T) c d)∧n=(if ch then d.sum+1 else 0)∧At w [] (Star (OwnA dv 3 1 nE d) (Star (OwnA ev 116 3 edE (edA T)) Emp)) w'
structure Dsf (T:Nt) (c:Nat→Nat) (N s0 k:Nat) (ch:Bool) (d:List Nat):Prop where
 len:d.length=N
 ok:Dok (edA T) c (goalB T) d
 clo:ch=false→DClo ((edA T).take k) c d
 lt:ch=true→d.sum < s0
 le:d.sum≤s0
def DsE (T:Nt) (cv dv ev:Value) (b:Nat) (c:Nat→Nat) (N s0:Nat) (w:World) (k:Nat) (ρ:Env) (w':World):Prop :=
 ρ 1=cv∧ρ 2=.pointer (some ⟨b,0,none⟩)∧ρ 6=dv∧ρ 9=ev∧ρ 41=ev∧∃d ch,ρ 10=.bool ch∧Dsf T c N s0 k ch d∧At w [] (Star (OwnA dv 3 1 nE d) (Star (OwnA ev 116 3 edE (edA T)) Emp)) w'
theorem upd_upto {g:Nat→Nat} {i x:Nat} (hx:g i=x) (y:Nat):updN (updN (upto i g 0) i y) i x=upto (i+1) g 0:=by
 rw [←upto_succ,hx]
 funext j
 by_cases h:j=i
 ·subst h; simp
 ·rw [updN_ne h,updN_ne h,updN_ne h]
theorem ed_rng {T:Nt} (hT:SmT T) {e:Ed} (he:e ∈ edA T):e.1 < (stsK T.vars T.vars.length).length∧e.2.1 < T.ops.length∧e.2.2 < (stsK T.vars T.vars.length).length:=by
 obtain ⟨s,o,h1,h2,h3,h4⟩:=edK_mem he
 refine ⟨(List.getElem?_eq_some_iff.1 h1).1,(List.getElem?_eq_some_iff.1 h2).1,?_⟩
 have hst:=apS_st (sts_st (List.mem_of_getElem? h1)) (hT.g.ops o (List.mem_of_getElem? h2))
 rw [h4]
 exact (List.getElem?_eq_some_iff.1 (rk_all hst)).1
set_option maxHeartbeats 1000000 in
theorem distances_spec {w:World} (T:Nt) (cv:Value) (c:Nat→Nat) (hr:NtR w T) (hT:SmT T) (hc:CvOk T cv c w) (hcb:∀i,i < T.ops.length→c i≤1048576) :
  Calls Tryz.prog 11 [ntV T,cv].toArray w fun e w'=>∃u,e=.returned u∧∃d,d.length=(stsK T.vars T.vars.length).length∧Dok (edA T) c (goalB T) d∧DClo (edA T) c d∧Vw w' u nE d∧Kp [] w w':=by
 refine enter Tryz.func11 mixed low11 (Nat.le_of_ble_eq_true rfl) ?_
 simp only [L11]
 have hg:=hT.g
 have hol:=hT.ol
 have hvl:=hT.vl
 obtain ⟨b,hb⟩:∃b,b=w.heap.size:=⟨_,rfl⟩
 obtain ⟨w1,hw1⟩:∃w1,w1=w.alloc (ntO T):=⟨_,rfl⟩
 have k1:Kp [] w w1:=by rw [hw1]; exact (Kp.refl [] w).alloc _
 have hw1':w.alloc (.cells #[T.vv.1,T.nv.1,T.gv.1,T.ov.1] 26 (0,0))=w1:=by rw [hw1]; rfl
 have hob:w1.heap[b]? = some (.cells #[T.vv.1,T.nv.1,T.gv.1,T.ov.1] 26 (0,0)):=by rw [hb,hw1]; exact alloc_new
 have hr1:=hr.kp k1
 simp [ntV,←hb,hw1',cell_blk hob]
 refine cl_of (states_spec T.vv.1 T.vars hr1.vars (by omega) (fun n hn=>by have:=hg.vars n hn; omega) (SmT.sts hT) (fun k hk s hs=>by have:=(sts_ok k hk s hs).1; omega)) ?_
 rintro all w2 h2
 have hls:=LLA.vw h2
 have k2:=k1.trans0 h2.kp
 have ob2:=h2.kp.blk hob (by simp)
 have hr2:=hr.kp k2
 have hc2:=hc.kp k2
 obtain ⟨ps,hpl,hpv,hpr⟩:=hls.spread
 have h512:=sts512 hT
 obtain ⟨N,hN⟩:∃N,N=ps.length:=⟨_,rfl⟩
 have hN512:N≤512:=by omega
 simp [hpv.len,←hN]
 refine gd_mk (by omega) ?_
 have h3:=(At.start rfl:At w2 [] Emp w2).made (E:=3) (enc:=nE) (x:=0) (z:=[.int .i64 0]) (n:=N) .emp rfl nE_len (by unfold maxLen; omega)
 rw [upto_zero N 0 (d0 T)] at h3
 obtain ⟨dv,hdv⟩:∃dv,dv=Value.slice (some ⟨w2.heap.size,0,none⟩) N N:=⟨_,rfl⟩
 rw [←hdv] at h3
 simp [←hdv,hpv.len,←hN]
 refine range_loop (n:=N) (by omega) (fun i ρ w'=>ρ 1=cv∧ρ 2=.pointer (some ⟨b,0,none⟩)∧ρ 6=dv∧ρ 20=all∧At w2 [] (Star (OwnA dv 3 1 nE (tabN N (upto i (d0 T) 0))) Emp) w') (by simp) (by simp)
  ⟨by simp,by simp,by simp,by simp,by simpa using h3⟩ (by decide) (fun _ _ _ _ h=>by simpa using h) (fun _ _ _ _ h=>by simpa using h) ?_ ?_
 ·rintro i ρ w4 hi hci hli ⟨g1,g2,g6,g20,h4⟩
  obtain ⟨p,hp⟩:∃p,ps[i]? = some p:=⟨_,List.getElem?_eq_getElem (by omega)⟩
  obtain ⟨s,hsk,hsv⟩:=hpr i p hp
  have hst:=sts_st (List.mem_of_getElem? hsk)
  have hpv4:=hpv.kp0 h4.kp
  have ep:w4.cell? (all.adr.add i)=some p.1.1:=by simpa using hpv4.at_ sv1_len hp (o:=0) (u:=p.1.1) rfl
  have hki:(i:Int) < ps.length:=by omega
  have hiN:(i:Int) < N:=by omega
  have htl:(tabN N (upto i (d0 T) 0)).length=N:=tabN_len _ _
  simp (disch:=omega) [g2,g6,g20,hci,hli,hpv4.idx,ep,h4.own.idx,htl]
  refine h4.store1 .emp nE_len nE_one (k:=i) (by omega) (x:=Inf) rfl fun w5 h5=>?_
  rw [tabN_set hi] at h5
  have ob5:=h5.kp.blk ob2 (by simp)
  have hgl:=hg.goal.len
  simp [g2,cell_blk ob5]
  refine cl_of (holds_spec T.gv.1 p.1.1 T.goal s (hr2.kp h5.kp).goal (hsv.kp0 h5.kp) (by omega) (fun f hf=>by rw [hst.len]; exact (hg.goal.rng f hf).1)) ?_
  rintro _ w6 ⟨rfl,k6⟩
  have h6:=h5.kp0 (Lcl.own.star .emp) k6
  have hgi:goalB T i=hdB s T.goal:=by unfold goalB; rw [hsk]
  cases hh:hdB s T.goal with
  | false =>
   have e:d0 T i=Inf:=by unfold d0; rw [hgi,hh]; rfl
   rw [←e,upto_succ] at h6
   simp [g1,g2,g6,g20,hci,hli]
   exact h6
  | true =>
   have e:d0 T i=0:=by unfold d0; rw [hgi,hh]; rfl
   have htl6:(tabN N (updN (upto i (d0 T) 0) i Inf)).length=N:=tabN_len _ _
   simp (disch:=omega) [g6,hci,h6.own.idx,htl6]
   refine h6.store1 .emp nE_len nE_one (k:=i) (by omega) (x:=0) rfl fun w7 h7=>?_
   rw [tabN_set hi,upd_upto e Inf] at h7
   simp [g1,g2,g6,g20,hci,hli]
   exact h7
 rintro ρ w4 ⟨g1,g2,g6,g20,h4⟩
 rw [upto_all] at h4
 have ob4:=h4.kp.blk ob2 (by simp)
 have rt:cellsAt w4 ⟨b,0,none⟩ 0 4=some [T.vv.1,T.nv.1,T.gv.1,T.ov.1]:=by simp [cellsAt,Addr.add,cell_blk ob4]
 simp [g2,rt]
 refine cl_of (edges_spec T (hr2.kp h4.kp) hT) ?_
 rintro ev w5 h5
 have h6:=(At.join (Lcl.own.star .emp) h4 h5).by Imp.sw
 simp
 refine loop_inv (DsI T cv dv ev b c N w2) ((tabN N (d0 T)).sum+1) ⟨by simp [g1],by simp [g2],by simp [g6],by simp,_,true,by simp,tabN_len _ _,d0_ok T (edA T) c N,by simp,rfl,h6⟩ ?_
 clear g1 g2 g6 g20 h4 h5 h6 rt ob4
 rintro n ρ w6 ⟨g1,g2,g6,g9,d,ch,g10,hdl,hok,hcl,rfl,h6⟩
 cases ch with
 | false =>
  simp [g10,g6]
  exact ⟨d,by omega,hok,hcl rfl,h6.own.vw,k2.trans0 h6.kp⟩
 | true =>
  have hel:=edK_len T (stsK T.vars T.vars.length).length
  have hel2:(stsK T.vars T.vars.length).length * T.ops.length≤512 * 20:=Nat.mul_le_mul (by omega) hol
  have helA:(edA T).length≤10240:=by show (edK T (stsK T.vars T.vars.length).length).length≤_; omega
  obtain ⟨s0,hs0⟩:∃s0,s0=d.sum:=⟨_,rfl⟩
  obtain ⟨M,hM⟩:∃M,M=(edA T).length:=⟨_,rfl⟩
  simp [g10,g9,h6.drop.own.vw.len,←hM]
  refine range_loop (n:=M) (by omega) (DsE T cv dv ev b c N s0 w2) (by simp) (by simp)
   ⟨by simp [g1],by simp [g2],by simp [g6],by simp [g9],by simp,d,false,by simp,⟨hdl,hok,fun _ e he=>by simp at he,by simp,by omega⟩,by simpa using h6⟩ (by decide) (fun _ _ _ _ h=>by unfold DsE at h ⊢; simpa using h) (fun _ _ _ _ h=>by unfold DsE at h ⊢; simpa using h) ?_ ?_
  rotate_left
  ·clear g1 g2 g6 g9 g10 h6
   rintro ρ w7 ⟨g1,g2,g6,g9,g41,d2,ch2,g10,hF,h7⟩
   simp
   have hcl2:=hF.clo
   rw [hM,List.take_length] at hcl2
   refine ⟨_,?_,g1,g2,g6,g9,d2,ch2,g10,hF.len,hF.ok,hcl2,rfl,h7⟩
   cases ch2 with
   | false=>simp
   | true=>have:=hF.lt rfl; simp; omega
  clear g1 g2 g6 g9 g10 h6 hcl hok
  rintro k ρ w7 hk hck hlk ⟨g1,g2,g6,g9,g41,d2,ch2,g10,hF,h7⟩
  obtain ⟨e,he⟩:∃e,(edA T)[k]? = some e:=⟨_,List.getElem?_eq_getElem (by omega)⟩
  have hem:=List.mem_of_getElem? he
  obtain ⟨r1,r2,r3⟩:=ed_rng hT hem
  obtain ⟨ef,eq,et⟩:=e
  simp only at r1 r2 r3
  obtain ⟨o,ho⟩:∃o,T.ops[eq]? = some o:=⟨_,List.getElem?_eq_getElem r2⟩
  have hcq:=hcb eq r2
  obtain ⟨fb,hfb⟩:∃fb,fb=w7.heap.size:=⟨_,rfl⟩
  have hLX:∀l:List Nat,Lcl (Star (OwnA dv 3 1 nE l) (Star (OwnA ev 116 3 edE (edA T)) Emp)):=fun _=>Lcl.own.star (Lcl.own.star .emp)
  refine seq_cut (fun ρ w'=>ρ 1=cv∧ρ 2=.pointer (some ⟨b,0,none⟩)∧ρ 6=dv∧ρ 9=ev∧ρ 41=ev∧ρ 42=.int .i64 (M:Nat)∧ρ 43=.int .i64 (k:Nat)∧ρ 10=.bool ch2∧ρ 12=.pointer (some ⟨fb,0,none⟩)∧At w2 [] (Star (ObjA fb (edO (ef,eq,et))) (Star (OwnA dv 3 1 nE d2) (Star (OwnA ev 116 3 edE (edA T)) Emp))) w') ?_ ?_
  ·have hev:=h7.drop.own.vw
   have ec:=hev.cells edE_len he
   simp only [edE] at ec
   have hki:(k:Int) < (edA T).length:=by omega
   simp (disch:=omega) [g9,g41,hck,hlk,hev.idx,ec,←hfb]
   refine st_ed (e:=(ef,eq,et)) (hLX _) h7 hfb fun w8 h8=>?_
   simp [g1,g2,g6,g9,g41,g10,hck,hlk,←hfb]
   exact h8
  clear g1 g2 g6 g9 g41 g10 hck hlk h7 hfb
  rintro ρ w7 ⟨g1,g2,g6,g9,g41,g42,g43,g10,g12,h7⟩
  have oe7:=h7.obj
  unfold edO at oe7
  have ob7:=h7.kp.blk ob2 (by simp)
  have hr7:=(hr2.kp h7.kp).ops
  have hqi:(eq:Int) < T.ops.length:=by omega
  refine seq_cut (fun ρ w'=>ρ 1=cv∧ρ 2=.pointer (some ⟨b,0,none⟩)∧ρ 6=dv∧ρ 9=ev∧ρ 41=ev∧ρ 42=.int .i64 (M:Nat)∧ρ 43=.int .i64 (k:Nat)∧ρ 10=.bool ch2∧ρ 12=.pointer (some ⟨fb,0,none⟩)∧ρ 13=.int .i64 (o.cost:Nat)∧w'=w7) ?_ ?_
  ·have c1:=hr7.fld noE_len ho (o:=1) (u:=.int .i64 (o.cost:Nat)) rfl
   simp (disch:=omega) [g1,g2,g6,g9,g41,g42,g43,g10,g12,cell_blk ob7,cell_blk oe7,hr7.idx,c1]
  clear g1 g2 g6 g9 g41 g42 g43 g10 g12
  rintro ρ w7 ⟨g1,g2,g6,g9,g41,g42,g43,g10,g12,g13,rfl⟩
  refine seq_cut (fun ρ w'=>ρ 1=cv∧ρ 2=.pointer (some ⟨b,0,none⟩)∧ρ 6=dv∧ρ 9=ev∧ρ 41=ev∧ρ 42=.int .i64 (M:Nat)∧ρ 43=.int .i64 (k:Nat)∧ρ 10=.bool ch2∧ρ 12=.pointer (some ⟨fb,0,none⟩)∧ρ 13=.int .i64 (c eq:Nat)∧w'=w7) ?_ ?_
  ·rcases hc2.kp h7.kp with ⟨rfl,hcc⟩ | ⟨cl,a,cap,e1,hcv,hcll,hcc⟩
   ·have:=hcc eq o ho
    rw [←this] at g13
    simp [g1,g2,g6,g9,g41,g42,g43,g10,g12,g13]
   ·obtain ⟨x,hx⟩:∃x,cl[eq]? = some x:=⟨_,List.getElem?_eq_getElem (by omega)⟩
    have hxe:c eq=x:=by rw [hcc eq]; simp [List.getD,hx]
    have hqc:(eq:Int) < cl.length:=by omega
    have c2:=nE_cell hcv hx
    subst e1
    have c2:w7.cell? (a.add eq)=some (.int .i64 (x:Nat)):=c2
    simp (disch:=omega) [g1,g2,g6,g9,g41,g42,g43,g10,g12,cell_blk oe7,hcv.idx,c2,hxe]
  clear g1 g2 g6 g9 g41 g42 g43 g10 g12 g13
  rintro ρ w7 ⟨g1,g2,g6,g9,g41,g42,g43,g10,g12,g13,rfl⟩
  have h8:=h7.by Imp.sw
  have hO:=h8.own
  have hdl2:=hF.len
  have tki:(edA T).take (k+1)=(edA T).take k ++ [(ef,eq,et)]:=take_snoc he
  obtain ⟨xt,hxt⟩:∃x,d2[et]? = some x:=⟨_,List.getElem?_eq_getElem (by omega)⟩
  obtain ⟨xf,hxf⟩:∃x,d2[ef]? = some x:=⟨_,List.getElem?_eq_getElem (by omega)⟩
  have hxtd:d2.getD et 0=xt:=by simp [List.getD,hxt]
  have hxfd:d2.getD ef 0=xf:=by simp [List.getD,hxf]
  have hti:(et:Int) < d2.length:=by omega
  have hfi:(ef:Int) < d2.length:=by omega
  have hxtI:xt≤Inf:=by rw [←hxtd]; exact hF.ok.le et (by omega)
  obtain ⟨cq,hcqe⟩:∃cq,cq=c eq:=⟨_,rfl⟩
  rw [←hcqe] at g13 hcq
  obtain ⟨sm,hsm⟩:∃sm,sm=xt+cq:=⟨_,rfl⟩
  have esm:(xt:Int)+(cq:Int)=(sm:Int):=by omega
  have hInf:Inf=1125899906842624:=rfl
  have cO:=hO.vw
  have ct:=nE_cell cO hxt
  have cf:=nE_cell cO hxf
  have ixt:=fun {K:Kont Value}=>cO.idx (P:=Tryz.prog) (T:=22) (k:=.i64) (i:=(et:Int)) (K:=K) (by omega) hti
  by_cases s1:xt < Inf
  ·have s1':(xt:Int) < 1125899906842624:=by omega
   by_cases s2:sm < xf
   ·have s2':(sm:Int) < (xf:Int):=by omega
    simp (disch:=omega) [g1,g2,g6,g9,g41,g42,g43,g10,g12,g13,cell_blk oe7,cO.idx,ct,cf,s1',s2',esm,wrap_i64]
    have ea:dv.adr.add ef=⟨dv.blk,ef,none⟩:=by
     rcases hO with ⟨rfl,h⟩ | ⟨g,cap,cur,junk,rfl,hh,_⟩
     ·rw [h] at hfi; simp at hfi; omega
     ·simp [Value.adr,Value.blk,Addr.add]; try omega
    rw [ea]
    have hLE:Lcl (Star (ObjA fb (edO (ef,eq,et))) (Star (OwnA ev 116 3 edE (edA T)) Emp)):=Lcl.obj.star (Lcl.own.star .emp)
    have h9:=(h8.drew (Lcl.own.star hLE)).drew (Lcl.own.star hLE)
    refine h9.store1 hLE nE_len nE_one (k:=ef) (by omega) (x:=sm) rfl fun w9 h10=>?_
    simp [g42,g43]
    unfold DsE
    have hst1:=hF.ok.step hem (by simp; omega) (by simp; omega) (by show d2.getD et 0+c eq < d2.getD ef 0; omega)
    have hst2:Dok (edA T) c (goalB T) (d2.set ef sm):=by
     have e:d2.getD et 0+c eq=sm:=by omega
     simpa only [e] using hst1
    have hslt:(d2.set ef sm).sum < d2.sum:=sum_set_lt (by omega) (by omega)
    have hle:=hF.le
    refine ⟨by simp [g1],by simp [g2],by simp [g6],by simp [g9],by simp [g41],d2.set ef sm,true,by simp,⟨by rw [List.length_set]; exact hdl2,hst2,(fun h=>by cases h),(fun _=>by omega),by omega⟩,?_⟩
    exact (h10.by (Imp.un Imp.dr))
   ·have s2':¬(sm:Int) < (xf:Int):=by omega
    simp (disch:=omega) [g1,g2,g6,g9,g41,g42,g43,g10,g12,g13,cell_blk oe7,cO.idx,ct,cf,s1',s2',esm,wrap_i64]
    unfold DsE
    refine ⟨by simp [g1],by simp [g2],by simp [g6],by simp [g9],by simp [g41],d2,ch2,by simp [g10],⟨hdl2,hF.ok,fun hc=>?_,hF.lt,hF.le⟩,?_⟩
    ·rw [tki]
     intro x hx
     rcases List.mem_append.1 hx with h | h
     ·exact hF.clo hc x h
     ·simp at h; subst h
      intro hh
      have hh:d2.getD et 0 < Inf:=hh
      show d2.getD ef 0≤d2.getD et 0+c eq
      omega
    ·exact ((h7.drop).drew (hLX _))
  ·have s1':¬(xt:Int) < 1125899906842624:=by omega
   simp (disch:=omega) [g1,g2,g6,g9,g41,g42,g43,g10,g12,g13,cell_blk oe7,cO.idx,ct,cf,s1',esm,wrap_i64]
   unfold DsE
   refine ⟨by simp [g1],by simp [g2],by simp [g6],by simp [g9],by simp [g41],d2,ch2,by simp [g10],⟨hdl2,hF.ok,fun hc=>?_,hF.lt,hF.le⟩,?_⟩
   ·rw [tki]
    intro x hx
    rcases List.mem_append.1 hx with h | h
    ·exact hF.clo hc x h
    ·simp at h; subst h
     intro hh
     have hh:d2.getD et 0 < Inf:=hh
     show d2.getD ef 0≤d2.getD et 0+c eq
     omega
   ·exact ((h7.drop).drew (hLX _))
end Go.Proofs.YtolkjbmcindhjaaGreat
end
section
namespace Go.Proofs.YtolkjbmcindhjaaGreat
open Go Go.W Go.Tk Go.Rx
def nbK (vars s p:List Nat):Nat→Nat
 | 0=>0
 | k+1=>nbK vars s p k * vars.getD (p.getD k 0) 0+s.getD (p.getD k 0) 0
def nbS (vars s p:List Nat):Nat:=nbK vars s p p.length
abbrev Db:=List Nat × (Nat→Nat) × List Nat
def hvL (vars s:List Nat):List Db→Nat→Nat
 | [],a=>a
 | d :: l,a=>if d.2.1 (nbS vars s d.1)=Inf then Inf else hvL vars s l (a+d.2.1 (nbS vars s d.1))
def hW (T:Nt) (l:List Db) (i:Nat):Nat:=match (stsK T.vars T.vars.length)[i]? with | some s=>hvL T.vars s l 0 | none=>0
end Go.Proofs.YtolkjbmcindhjaaGreat
end
