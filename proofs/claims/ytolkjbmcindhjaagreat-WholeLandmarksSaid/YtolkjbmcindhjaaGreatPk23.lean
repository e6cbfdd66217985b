/-
  A part of the proof of this claim's statement (SxE, LmPlain, LmCut, SxF, SxG): plain theorems; no conditions beyond those each names.
-/
import Derived.Test.YtolkjbmcindhjaaGreatPk17
import Derived.Test.YtolkjbmcindhjaaGreatPk14
set_option maxRecDepth 100000
set_option linter.unusedSimpArgs false
set_option linter.unusedVariables false
set_option linter.unusedSectionVars false
section
namespace Go.Sx
abbrev Rw:=List Bool × Nat
def inB (ks:List (List Nat)) (op:Nat):List Bool:=ks.map fun k=>decide (op ∈ k)
def rws (cs:List Nat) (ks:List (List Nat)):List Rw:=((List.range cs.length).map fun op=>((inB ks op,cs.getD op 0):Rw)).filter fun r=>r.1.any id
def betB (L:List Rw) (i:Nat) (x:Rw) (j:Nat):Bool:=match L[j]? with
 | none=>false
 | some y=>decide (i≠j) && decide (x.1=y.1) && (decide (y.2 < x.2) || (decide (y.2=x.2) && decide (j < i)))
def kepB (L:List Rw) (i:Nat):Bool:=match L[i]? with
 | none=>false
 | some x=>!((List.range L.length).any (betB L i x))
def keptN (L:List Rw) (n:Nat):List Rw:=((List.range n).filter (kepB L)).map fun i=>L.getD i ([],0)
def kept (L:List Rw):List Rw:=keptN L L.length
theorem kept_mem {L:List Rw} {x:Rw} (h:x ∈ kept L):x ∈ L:=by
 unfold kept keptN at h
 obtain ⟨i,hi,rfl⟩:=List.mem_map.1 h
 have hi':=List.mem_range.1 (List.mem_filter.1 hi).1
 rw [List.getD_eq_getElem?_getD,List.getElem?_eq_getElem hi']
 exact List.getElem_mem hi'
theorem kept_len (L:List Rw):(kept L).length≤L.length:=by
 unfold kept keptN
 rw [List.length_map]
 refine Nat.le_trans (List.length_filter_le _ _) ?_
 rw [List.length_range]
 exact Nat.le_refl _
theorem kept_le {L:List Rw}:∀(c i:Nat) (x:Rw),L[i]? = some x→x.2 < c∨(x.2=c)→∃y ∈ kept L,y.1=x.1∧y.2≤x.2:=by
 have key:∀(m:Nat) (i:Nat) (x:Rw),L[i]? = some x→x.2 * (L.length+1)+i≤m→∃y ∈ kept L,y.1=x.1∧y.2≤x.2:=fun m=>by
  induction m with
  | zero =>
   intro i x hx hm
   have hi:i < L.length:=(List.getElem?_eq_some_iff.1 hx).1
   have hi0:i=0:=by omega
   have hx0:x.2=0:=by
    rcases Nat.eq_zero_or_pos x.2 with h | h
    ·exact h
    ·have:=Nat.mul_le_mul_right (L.length+1) h
     omega
   refine ⟨x,?_,rfl,Nat.le_refl _⟩
   unfold kept keptN
   refine List.mem_map.2 ⟨i,List.mem_filter.2 ⟨List.mem_range.2 hi,?_⟩,by rw [List.getD_eq_getElem?_getD,hx]; rfl⟩
   unfold kepB
   rw [hx]
   simp only [Bool.not_eq_true',List.any_eq_false]
   intro j _
   unfold betB
   cases L[j]? with
   | none=>simp
   | some y=>simp; intros; omega
  | succ m ih =>
   intro i x hx hm
   have hi:i < L.length:=(List.getElem?_eq_some_iff.1 hx).1
   by_cases hk:kepB L i=true
   ·refine ⟨x,?_,rfl,Nat.le_refl _⟩
    unfold kept keptN
    exact List.mem_map.2 ⟨i,List.mem_filter.2 ⟨List.mem_range.2 hi,hk⟩,by rw [List.getD_eq_getElem?_getD,hx]; rfl⟩
   ·unfold kepB at hk
    rw [hx] at hk
    simp only [Bool.not_eq_true',Bool.not_eq_false,List.any_eq_true] at hk
    obtain ⟨j,hj,hb⟩:=hk
    have hj':=List.mem_range.1 hj
    unfold betB at hb
    obtain ⟨y,hy⟩:∃y,L[j]? = some y:=⟨_,List.getElem?_eq_getElem hj'⟩
    rw [hy] at hb
    simp only [Bool.and_eq_true,Bool.or_eq_true,decide_eq_true_eq] at hb
    obtain ⟨⟨h1,h2⟩,h3⟩:=hb
    have hlt:y.2 * (L.length+1)+j≤m:=by
     rcases h3 with h | ⟨h,h'⟩
     ·have:=Nat.mul_le_mul_right (L.length+1) (show y.2+1≤x.2 by omega)
      rw [Nat.add_mul] at this
      omega
     ·rw [h]; omega
    obtain ⟨z,hz,e1,e2⟩:=ih j y hy hlt
    exact ⟨z,hz,by rw [e1,h2],by omega⟩
 intro c i x hx _
 exact key _ i x hx (Nat.le_refl _)
structure Val (cs:List Nat) (ks:List (List Nat)) (v:Nat→Rat):Prop where
 nn:∀j,j < ks.length→0≤v j
 le:∀op,op < cs.length→sumN ks.length (fun j=>if (inB ks op).getD j false=true then v j else 0)≤((cs.getD op 0:Nat):Rat)
def mtA (L:List Rw) (i j:Nat):Rat:=if ((L.getD i ([],0)).1.getD j false)=true then 1 else 0
def mtb (L:List Rw) (i:Nat):Rat:=(((L.getD i ([],0)).2:Nat):Rat)
section
variable {cs:List Nat} {ks:List (List Nat)}
theorem mtA_01 (L:List Rw) (i j:Nat):mtA L i j=0∨mtA L i j=1:=by unfold mtA; split; exact .inr rfl; exact .inl rfl
theorem mtA_nn (L:List Rw) (i j:Nat):0≤mtA L i j:=by rcases mtA_01 L i j with h | h <;> rw [h] <;> grind
theorem nc_nn (n:Nat):(0:Rat)≤(n:Rat):=by
 have:=Rat.intCast_le_intCast.2 (show (0:Int)≤(n:Int) by omega)
 rw [Rat.intCast_natCast] at this
 exact this
theorem nc_le {a b:Nat} (h:a≤b):(a:Rat)≤(b:Rat):=by
 have:=Rat.intCast_le_intCast.2 (show (a:Int)≤(b:Int) by omega)
 rw [Rat.intCast_natCast,Rat.intCast_natCast] at this
 exact this
theorem nc_isI (n:Nat):IsI (n:Rat):=⟨(n:Int),(Rat.intCast_natCast n).symm⟩
theorem row_of {i:Nat} (hi:i < (kept (rws cs ks)).length):∃op,op < cs.length∧(kept (rws cs ks)).getD i ([],0)=(inB ks op,cs.getD op 0):=by
 have hm:(kept (rws cs ks)).getD i ([],0) ∈ kept (rws cs ks):=by
  rw [List.getD_eq_getElem?_getD,List.getElem?_eq_getElem hi]
  exact List.getElem_mem hi
 have h1:=kept_mem hm
 unfold rws at h1
 obtain ⟨h2,_⟩:=List.mem_filter.1 h1
 obtain ⟨op,ho,e⟩:=List.mem_map.1 h2
 exact ⟨op,List.mem_range.1 ho,e.symm⟩
theorem mt_sum {L:List Rw} {i n:Nat} {v:Nat→Rat} {ib:List Bool} (h:(L.getD i ([],0)).1=ib):sumN n (fun j=>mtA L i j * v j)=sumN n fun j=>if ib.getD j false=true then v j else 0:=by
 refine sumN_congr fun j _=>?_
 unfold mtA
 rw [h]
 split <;> grind
theorem Val.fea {v:Nat→Rat} (h:Val cs ks v):Fea (kept (rws cs ks)).length ks.length (mtA (kept (rws cs ks))) (mtb (kept (rws cs ks))) v:=by
 refine ⟨h.nn,fun i hi=>?_⟩
 obtain ⟨op,ho,e⟩:=row_of hi
 rw [mt_sum (ib:=inB ks op) (by rw [e])]
 unfold mtb
 rw [e]
 exact h.le op ho
theorem Fea.val {v:Nat→Rat} (h:Fea (kept (rws cs ks)).length ks.length (mtA (kept (rws cs ks))) (mtb (kept (rws cs ks))) v):Val cs ks v:=by
 refine ⟨h.nn,fun op ho=>?_⟩
 by_cases ha:(inB ks op).any id=true
 ·have hm:((inB ks op,cs.getD op 0):Rw) ∈ rws cs ks:=by
   unfold rws
   exact List.mem_filter.2 ⟨List.mem_map.2 ⟨op,List.mem_range.2 ho,rfl⟩,ha⟩
  obtain ⟨i,hi⟩:=List.mem_iff_getElem?.1 hm
  obtain ⟨y,hy,e1,e2⟩:=kept_le _ i _ hi (.inr rfl)
  obtain ⟨k,hk⟩:=List.mem_iff_getElem?.1 hy
  have hkl:=(List.getElem?_eq_some_iff.1 hk).1
  have hg:(kept (rws cs ks)).getD k ([],0)=y:=by rw [List.getD_eq_getElem?_getD,hk]; rfl
  have h1:=h.le k hkl
  rw [mt_sum (ib:=inB ks op) (by rw [hg,e1])] at h1
  refine Rat.le_trans h1 ?_
  unfold mtb
  rw [hg]
  exact nc_le e2
 ·rw [sumN_zero fun j hj=>?_]
  ·exact nc_nn _
  ·rw [if_neg]
   intro hx
   refine ha (List.any_eq_true.2 ⟨true,?_,rfl⟩)
   rw [List.getD_eq_getElem?_getD] at hx
   cases hg:(inB ks op)[j]? with
   | none=>rw [hg] at hx; cases hx
   | some b =>
    rw [hg] at hx
    have:b=true:=hx
    rw [this] at hg
    exact List.mem_of_getElem? hg
theorem kept_col (hne:∀k ∈ ks,k≠[]) (hrg:∀k ∈ ks,∀q ∈ k,q < cs.length):∀j,j < ks.length→∃i,i < (kept (rws cs ks)).length∧mtA (kept (rws cs ks)) i j=1:=fun j hj=>by
 obtain ⟨k,hk⟩:∃k,ks[j]? = some k:=⟨_,List.getElem?_eq_getElem hj⟩
 have hkm:=List.mem_of_getElem? hk
 obtain ⟨q,hq⟩:=List.exists_mem_of_ne_nil k (hne k hkm)
 have hqr:=hrg k hkm q hq
 have hin:(inB ks q)[j]? = some true:=by
  unfold inB
  rw [List.getElem?_map,hk]
  simp [hq]
 have hm:((inB ks q,cs.getD q 0):Rw) ∈ rws cs ks:=by
  unfold rws
  exact List.mem_filter.2 ⟨List.mem_map.2 ⟨q,List.mem_range.2 hqr,rfl⟩,List.any_eq_true.2 ⟨true,List.mem_of_getElem? hin,rfl⟩⟩
 obtain ⟨i,hi⟩:=List.mem_iff_getElem?.1 hm
 obtain ⟨y,hy,e1,_⟩:=kept_le _ i _ hi (.inr rfl)
 obtain ⟨l,hl⟩:=List.mem_iff_getElem?.1 hy
 refine ⟨l,(List.getElem?_eq_some_iff.1 hl).1,?_⟩
 have hg:(kept (rws cs ks)).getD l ([],0)=y:=by rw [List.getD_eq_getElem?_getD,hl]; rfl
 unfold mtA
 rw [hg,e1,List.getD_eq_getElem?_getD,hin]
 simp
theorem rws_len:(rws cs ks).length≤cs.length:=by
 unfold rws
 refine Nat.le_trans (List.length_filter_le _ _) ?_
 simp
structure Opt (cs:List Nat) (ks:List (List Nat)) (v:Nat→Rat):Prop where
 val:Val cs ks v
 top:∀u,Val cs ks u→sumN ks.length u≤sumN ks.length v
 den:∃D:Int,1≤D∧D≤907200∧∀j,IsI ((D:Rat) * v j)
theorem Way.best {t:Nat} {T:Nat→Tb} {r k:Nat→Nat} (h:Way (kept (rws cs ks)).length (ks.length+(kept (rws cs ks)).length) T r k t) (h0:T 0=tb0 (kept (rws cs ks)).length ks.length (mtA (kept (rws cs ks))) (mtb (kept (rws cs ks)))) (hend:∀j,j < ks.length+(kept (rws cs ks)).length→(T t).c j≤0) (hc:cs.length≤10):Opt cs ks (Sx.pt (kept (rws cs ks)).length (T t)):=by
 obtain ⟨f1,f2⟩:=h.pt h0 (Nat.le_refl t)
 have hm:(kept (rws cs ks)).length≤10:=Nat.le_trans (kept_len _) (Nat.le_trans rws_len hc)
 exact ⟨f1.val,fun u hu=>by rw [f2]; exact h.opt h0 hend hu.fea,h.den h0 hm (fun i j _ _=>mtA_01 _ i j) (fun i _=>nc_isI _) (Nat.le_refl t)⟩
end
end Go.Sx
end
section
namespace Go.Lm
open Go.Rx
def btr (V:Nat→Nat) (f o:Nat):Bool:=decide (V o < V f) || (decide (V f=V o) && decide (f < o))
def gStep (V:Nat→Nat):Option Nat→Nat→Option Nat
 | none,f=>some f
 | some o,f=>if btr V f o=true then some f else some o
def gst (V:Nat→Nat) (l:List Nat):Option Nat:=l.foldl (gStep V) none
def IsG (V:Nat→Nat) (l:List Nat) (g:Nat):Prop:=g ∈ l∧∀x ∈ l,V x < V g∨(V x=V g∧g≤x)
section
variable {V:Nat→Nat} {l l':List Nat} {g g':Nat}
theorem IsG.uniq (h:IsG V l g) (h':IsG V l g'):g=g':=by
 have h1:=h.2 g' h'.1
 have h2:=h'.2 g h.1
 omega
theorem IsG.set (h:IsG V l g) (hs:∀x,x ∈ l↔x ∈ l'):IsG V l' g:=⟨(hs g).1 h.1,fun x hx=>h.2 x ((hs x).2 hx)⟩
theorem IsG.val (h:IsG V l g):V g=gr V l:=Nat.le_antisymm (gr_mem h.1) (gr_le_iff.2 fun x hx=>by have:=h.2 x hx; omega)
theorem IsG.snoc (h:IsG V l g) (f:Nat):IsG V (l ++ [f]) (if btr V f g=true then f else g):=by
 by_cases hb:btr V f g=true
 ·rw [if_pos hb]
  unfold btr at hb
  simp only [Bool.or_eq_true,Bool.and_eq_true,decide_eq_true_eq] at hb
  refine ⟨by simp,fun x hx=>?_⟩
  rcases List.mem_append.1 hx with h1 | h1
  ·have:=h.2 x h1; omega
  ·simp at h1; subst h1; omega
 ·rw [if_neg hb]
  unfold btr at hb
  simp only [Bool.or_eq_true,Bool.and_eq_true,decide_eq_true_eq,not_or,not_and] at hb
  refine ⟨by simp [h.1],fun x hx=>?_⟩
  rcases List.mem_append.1 hx with h1 | h1
  ·exact h.2 x h1
  ·simp at h1; subst h1
   have h2:=hb.1
   have h3:=hb.2
   by_cases he:V x=V g
   ·have:=h3 he; omega
   ·omega
theorem gst_snoc (l:List Nat) (f:Nat):gst V (l ++ [f])=gStep V (gst V l) f:=by unfold gst; rw [List.foldl_append]; rfl
theorem snoc_ind {α:Type} {p:List α→Prop} (h0:p []) (h:∀l x,p l→p (l ++ [x])) (l:List α):p l:=by
 have key:∀r:List α,p r.reverse:=by
  intro r
  induction r with
  | nil=>exact h0
  | cons x r ih=>rw [List.reverse_cons]; exact h _ _ ih
 simpa using key l.reverse
theorem gst_spec (l:List Nat):(l=[]∧gst V l=none)∨∃g,gst V l=some g∧IsG V l g:=by
 induction l using snoc_ind with
 | h0=>exact .inl ⟨rfl,rfl⟩
 | h l f ih =>
  right
  rw [gst_snoc]
  rcases ih with ⟨rfl,h⟩ | ⟨g,h,hg⟩
  ·rw [h]
   exact ⟨f,rfl,by simp,fun x hx=>by simp at hx; subst hx; exact .inr ⟨rfl,Nat.le_refl _⟩⟩
  ·rw [h]
   have:=hg.snoc f
   by_cases hb:btr V f g=true
   ·rw [if_pos hb] at this
    exact ⟨f,by simp only [gStep,if_pos hb],this⟩
   ·rw [if_neg hb] at this
    exact ⟨g,by simp only [gStep,if_neg hb],this⟩
theorem gst_of (h:IsG V l g):gst V l=some g:=by
 rcases gst_spec (V:=V) l with ⟨rfl,_⟩ | ⟨g',e,hg⟩
 ·cases h.1
 ·rw [e,hg.uniq h]
theorem gst_some (h:gst V l=some g):IsG V l g:=by
 rcases gst_spec (V:=V) l with ⟨rfl,e⟩ | ⟨g',e,hg⟩
 ·cases h
 ·rw [e] at h; cases h; exact hg
theorem gst_none (h:gst V l=none):l=[]:=by
 rcases gst_spec (V:=V) l with ⟨e,_⟩ | ⟨g',e,hg⟩
 ·exact e
 ·rw [e] at h; cases h
theorem gst_set (hs:∀x,x ∈ l↔x ∈ l'):gst V l=gst V l':=by
 rcases gst_spec (V:=V) l with ⟨rfl,e⟩ | ⟨g,e,hg⟩
 ·have:l'=[]:=List.eq_nil_iff_forall_not_mem.2 fun x hx=>by have:=(hs x).2 hx; cases this
  subst this; rfl
 ·rw [e,gst_of (hg.set hs)]
theorem gr_gst (l:List Nat):gr V l=match gst V l with | some g=>V g | none=>0:=by
 rcases gst_spec (V:=V) l with ⟨rfl,e⟩ | ⟨g,e,hg⟩
 ·rfl
 ·rw [e]; exact hg.val.symm
end
structure Ar where
 fr:Option Nat
 to:Nat
 op:Nat
def arU (V:Nat→Nat) (u:Un):Ar:=⟨gst V u.needs,u.makes,u.op⟩
def arcs (U:List Un) (V:Nat→Nat):List Ar:=(U.filter fun u=>decide (gr V u.needs < Inf)).map (arU V)
inductive TZ (A:List Ar) (c:Nat→Nat) (g:Nat):Nat→Prop
 | base:TZ A c g g
 | step {a:Ar} {f:Nat} (ha:a ∈ A) (hf:a.fr=some f) (hc:c a.op=0) (ht:TZ A c g a.to):TZ A c g f
inductive SZ (A:List Ar) (S0:List Nat) (T:Nat→Prop):Nat→Prop
 | base {f:Nat} (h:f ∈ S0):SZ A S0 T f
 | start {a:Ar} (ha:a ∈ A) (hf:a.fr=none) (ht:¬T a.to):SZ A S0 T a.to
 | step {a:Ar} {f:Nat} (ha:a ∈ A) (hf:a.fr=some f) (hs:SZ A S0 T f) (ht:¬T a.to):SZ A S0 T a.to
def Beg (A:List Ar) (S0:List Nat) (T:Nat→Prop) (a:Ar):Prop:=a.fr=none∨∃f,a.fr=some f∧SZ A S0 T f
def XO (A:List Ar) (c:Nat→Nat) (S0:List Nat) (g:Nat) (op:Nat):Prop:=∃a ∈ A,a.op=op∧Beg A S0 (TZ A c g) a∧TZ A c g a.to
def wc (U:List Un) (c:Nat→Nat):List Un:=U.map fun u=>{ u with cost:=c u.op }
theorem wc_mem {U:List Un} {c:Nat→Nat} {v:Un} (h:v ∈ wc U c):∃u ∈ U,v={ u with cost:=c u.op }:=by
 obtain ⟨u,hu,rfl⟩:=List.mem_map.1 h
 exact ⟨u,hu,rfl⟩
theorem mem_wc {U:List Un} {c:Nat→Nat} {u:Un} (h:u ∈ U):({ u with cost:=c u.op }:Un) ∈ wc U c:=List.mem_map.2 ⟨u,h,rfl⟩
structure IsCut (U:List Un) (c:Nat→Nat) (S0 G:List Nat) (V:Nat→Nat) (L:List Nat) (m:Nat):Prop where
 ex:∃g,gst V G=some g∧∀op,op ∈ L↔XO (arcs U V) c S0 g op
 asc:L.Pairwise (· < ·)
 le:∀op ∈ L,m≤c op
 at_:∃op ∈ L,c op=m
def sub (c:Nat→Nat) (L:List Nat) (m:Nat):Nat→Nat:=fun i=>if i ∈ L then c i - m else c i
inductive LmC (U:List Un) (S0 G:List Nat):(Nat→Nat)→Option (List (List Nat × Nat))→Prop
 | inf {c V:Nat→Nat} (hV:IsVal (wc U c) S0 V) (h:Inf≤gr V G):LmC U S0 G c none
 | nil {c V:Nat→Nat} (hV:IsVal (wc U c) S0 V) (h:gr V G=0):LmC U S0 G c (some [])
 | cut {c V:Nat→Nat} {L:List Nat} {m:Nat} {r:Option (List (List Nat × Nat))} (hV:IsVal (wc U c) S0 V) (h0:0 < gr V G) (hi:gr V G < Inf) (hc:IsCut U c S0 G V L m) (hr:LmC U S0 G (sub c L m) r):LmC U S0 G c (r.map ((L,m) :: ·))
section
variable {U:List Un} {S0 G:List Nat} {c V:Nat→Nat} {L L':List Nat} {m m' g:Nat}
theorem asc_ext:∀{L L':List Nat},L.Pairwise (· < ·)→L'.Pairwise (· < ·)→(∀x,x ∈ L↔x ∈ L')→L=L'
 | [],[],_,_,_=>rfl
 | [],b :: L',_,_,h=>by have:=(h b).2 (by simp); cases this
 | a :: L,[],_,_,h=>by have:=(h a).1 (by simp); cases this
 | a :: L,b :: L',h1,h2,h=>by
  rw [List.pairwise_cons] at h1 h2
  have hab:a=b:=by
   rcases List.mem_cons.1 ((h a).1 (by simp)) with e | e
   ·exact e
   ·rcases List.mem_cons.1 ((h b).2 (by simp)) with e2 | e2
    ·exact e2.symm
    ·have:=h1.1 b e2; have:=h2.1 a e; omega
  subst hab
  congr 1
  refine asc_ext h1.2 h2.2 fun x=>?_
  constructor
  ·intro hx
   rcases List.mem_cons.1 ((h x).1 (by simp [hx])) with e | e
   ·subst e; have:=h1.1 x hx; omega
   ·exact e
  ·intro hx
   rcases List.mem_cons.1 ((h x).2 (by simp [hx])) with e | e
   ·subst e; have:=h2.1 x hx; omega
   ·exact e
theorem IsCut.uniq (h:IsCut U c S0 G V L m) (h':IsCut U c S0 G V L' m'):L=L'∧m=m':=by
 obtain ⟨g,e,hx⟩:=h.ex
 obtain ⟨g',e',hx'⟩:=h'.ex
 rw [e] at e'
 cases e'
 have hL:=asc_ext h.asc h'.asc fun x=>(hx x).trans (hx' x).symm
 subst hL
 obtain ⟨o,ho,e1⟩:=h.at_
 obtain ⟨o',ho',e2⟩:=h'.at_
 have:=h.le o' ho'
 have:=h'.le o ho
 exact ⟨rfl,by omega⟩
theorem LmC.uniq {r r':Option (List (List Nat × Nat))} (h:LmC U S0 G c r) (h':LmC U S0 G c r'):r=r':=by
 induction h generalizing r' with
 | inf hV hh =>
  cases h' with
  | inf _ _=>rfl
  | nil hV' h2=>rw [hV.uniq hV'] at hh; rw [h2] at hh; unfold Inf at hh; omega
  | cut hV' _ h2 _ _=>rw [hV.uniq hV'] at hh; omega
 | nil hV hh =>
  cases h' with
  | inf hV' h2=>rw [←hV.uniq hV',hh] at h2; unfold Inf at h2; omega
  | nil _ _=>rfl
  | cut hV' h2 _ _ _=>rw [←hV.uniq hV',hh] at h2; omega
 | cut hV h0 hi hc hr ih =>
  cases h' with
  | inf hV' h2=>rw [←hV.uniq hV'] at h2; omega
  | nil hV' h2=>rw [←hV.uniq hV'] at h2; omega
  | cut hV' _ _ hc' hr' =>
   have e:=hV.uniq hV'
   subst e
   obtain ⟨rfl,rfl⟩:=hc.uniq hc'
   rw [ih hr']
end
end Go.Lm
end
section
namespace Go.Lm
open Go.Rx
structure Szs (U:List Un) (S0:List Nat) (N C:Nat) (c:Nat→Nat):Prop where
 made:∀u ∈ U,u.makes < N
 s0:∀x ∈ S0,x < N
 cost:∀u ∈ U,c u.op≤C
 sm:N * C < Inf
section
variable {U:List Un} {S0 G:List Nat} {c V:Nat→Nat} {L:List Nat} {m g N C f k op:Nat}
theorem Szs.der (h:Szs U S0 N C c) (d:Der (wc U c) S0 f k):f < N:=by
 cases d with
 | base hf=>exact h.s0 _ hf
 | step hu kk hk =>
  obtain ⟨u,hu2,rfl⟩:=wc_mem hu
  exact h.made u hu2
theorem Szs.fin (h:Szs U S0 N C c) (hV:IsVal (wc U c) S0 V):V f < Inf↔∃k,Der (wc U c) S0 f k :=
 hV.fin (C:=C) (N:=N) (fun u hu=>by
  obtain ⟨v,hv,rfl⟩:=wc_mem hu
  exact h.cost v hv) (fun f k d=>h.der d) h.sm
theorem Szs.sub (h:Szs U S0 N C c) (L:List Nat) (m:Nat):Szs U S0 N C (sub c L m) :=
 ⟨h.made,h.s0,fun u hu=>by
  have:=h.cost u hu
  unfold Go.Lm.sub
  split <;> omega,h.sm⟩
theorem arcs_mem {a:Ar} (h:a ∈ arcs U V):∃u ∈ U,gr V u.needs < Inf∧a=arU V u:=by
 unfold arcs at h
 obtain ⟨u,hu,rfl⟩:=List.mem_map.1 h
 rw [List.mem_filter] at hu
 exact ⟨u,hu.1,by simpa using hu.2,rfl⟩
theorem mem_arcs {u:Un} (hu:u ∈ U) (h:gr V u.needs < Inf):arU V u ∈ arcs U V:=List.mem_map.2 ⟨u,List.mem_filter.2 ⟨hu,by simpa using h⟩,rfl⟩
theorem val_cl (hV:IsVal (wc U c) S0 V) {u:Un} (hu:u ∈ U) (h:gr V u.needs < Inf):V u.makes≤gr V u.needs+c u.op:=hV.cl _ (mem_wc (c:=c) hu) h
theorem tz_val (hV:IsVal (wc U c) S0 V) (h:TZ (arcs U V) c g f):V g≤V f:=by
 induction h with
 | base=>exact Nat.le_refl _
 | step ha hf hc ht ih =>
  obtain ⟨u,hu,h1,rfl⟩:=arcs_mem ha
  have h2:=val_cl hV hu h1
  have h3:=gr_gst (V:=V) u.needs
  have hf:gst V u.needs=some _:=hf
  rw [hf] at h3
  have hc:c u.op=0:=hc
  have ih:V g≤V u.makes:=ih
  simp only at h3
  omega
theorem sz_tz (hV:IsVal (wc U c) S0 V) (h0:0 < V g) (h:SZ (arcs U V) S0 (TZ (arcs U V) c g) f):¬TZ (arcs U V) c g f:=by
 cases h with
 | base hf =>
  intro ht
  have:=tz_val hV ht
  rw [hV.s0 f hf] at this
  omega
 | start ha hf ht=>exact ht
 | step ha hf hs ht=>exact ht
theorem xo_pos (hV:IsVal (wc U c) S0 V) (h0:0 < V g) (h:XO (arcs U V) c S0 g op):0 < c op:=by
 obtain ⟨a,ha,rfl,hb,ht⟩:=h
 rcases Nat.eq_zero_or_pos (c a.op) with hz | hp
 ·exfalso
  rcases hb with hf | ⟨f,hf,hs⟩
  ·obtain ⟨u,hu,h1,rfl⟩:=arcs_mem ha
   have h2:=val_cl hV hu h1
   have h3:=tz_val hV ht
   have hn:u.needs=[]:=gst_none hf
   rw [hn] at h2
   have hz:c u.op=0:=hz
   have h3:V g≤V u.makes:=h3
   simp only [gr] at h2
   omega
  ·exact sz_tz hV h0 hs (.step ha hf hz ht)
 ·exact hp
theorem sz_der (hV:IsVal (wc U c) S0 V) {T:Nat→Prop} (h:SZ (arcs U V) S0 T f):∃k,Der (wc U c) S0 f k:=by
 have key:∀a ∈ arcs U V,∃k,Der (wc U c) S0 a.to k:=fun a ha=>by
  obtain ⟨u,hu,h1,rfl⟩:=arcs_mem ha
  have h2:=(gr_lt_iff (by unfold Inf; omega)).1 h1
  exact ⟨_,.step (mem_wc (c:=c) hu) V fun n hn=>hV.der n (h2 n hn)⟩
 cases h with
 | base hf=>exact ⟨0,.base hf⟩
 | start ha hf ht=>exact key _ ha
 | step ha hf hs ht=>exact key _ ha
theorem sz_step (hz:Szs U S0 N C c) (hV:IsVal (wc U c) S0 V) {u:Un} (hu:u ∈ U) (hn:∀n ∈ u.needs,SZ (arcs U V) S0 (TZ (arcs U V) c g) n) (hx:¬XO (arcs U V) c S0 g u.op):SZ (arcs U V) S0 (TZ (arcs U V) c g) u.makes:=by
 have h1:gr V u.needs < Inf:=(gr_lt_iff (by unfold Inf; omega)).2 fun n h=>(hz.fin hV).2 (sz_der hV (hn n h))
 have ha:=mem_arcs hu h1
 by_cases ht:TZ (arcs U V) c g u.makes
 ·refine absurd ⟨arU V u,ha,rfl,?_,ht⟩ hx
  rcases gst_spec (V:=V) u.needs with ⟨_,e⟩ | ⟨f,e,hf⟩
  ·exact .inl e
  ·exact .inr ⟨f,e,hn f hf.1⟩
 ·rcases gst_spec (V:=V) u.needs with ⟨_,e⟩ | ⟨f,e,hf⟩
  ·exact SZ.start (a:=arU V u) ha e ht
  ·exact SZ.step (a:=arU V u) ha e (hn f hf.1) ht
theorem xo_ex (hz:Szs U S0 N C c) (hV:IsVal (wc U c) S0 V) (h0:0 < V g) (hi:V g < Inf):∃op,XO (arcs U V) c S0 g op:=by
 apply Classical.byContradiction
 intro hno
 have key:∀f k,Der (wc U c) S0 f k→SZ (arcs U V) S0 (TZ (arcs U V) c g) f:=by
  intro f k d
  induction d with
  | base hf=>exact .base hf
  | step hu kk hk ih =>
   obtain ⟨u,hu2,rfl⟩:=wc_mem hu
   have:=sz_step hz hV hu2 (g:=g) ih fun hx=>hno ⟨_,hx⟩
   exact this
 exact sz_tz hV h0 (key g _ (hV.der g hi)) .base
def Stp (U:List Un) (x:List Nat) (q:Nat) (x':List Nat):Prop:=∀f ∈ x',f ∈ x∨∃u ∈ U,u.op=q∧u.makes=f∧∀n ∈ u.needs,n ∈ x
theorem IsCut.gst0 (h:IsCut U c S0 G V L m) (h0:0 < gr V G) (hi:gr V G < Inf):∃g,gst V G=some g∧0 < V g∧V g < Inf∧g ∈ G∧∀op,op ∈ L↔XO (arcs U V) c S0 g op:=by
 obtain ⟨g,e,hx⟩:=h.ex
 have hg:=gst_some e
 rw [←hg.val] at h0 hi
 exact ⟨g,e,h0,hi,hg.1,hx⟩
theorem IsCut.landmark (hz:Szs U S0 N C c) (hV:IsVal (wc U c) S0 V) (h:IsCut U c S0 G V L m) (h0:0 < gr V G) (hi:gr V G < Inf) :
  ∃P:List Nat→Prop,P S0∧(∀x,P x→¬∀f ∈ G,f ∈ x)∧∀x q x',q ∉ L→Stp U x q x'→P x→P x':=by
 obtain ⟨g,e,hg0,hgi,hgm,hx⟩:=h.gst0 h0 hi
 refine ⟨fun x=>∀f ∈ x,SZ (arcs U V) S0 (TZ (arcs U V) c g) f,fun f hf=>.base hf,fun x hp hG=>?_,fun x q x' hq hs hp f hf=>?_⟩
 ·exact sz_tz hV hg0 (hp g (hG g hgm)) .base
 ·rcases hs f hf with h1 | ⟨u,hu,rfl,rfl,hn⟩
  ·exact hp f h1
  ·exact sz_step hz hV hu (fun n hn2=>hp n (hn n hn2)) fun hxx=>hq ((hx _).2 hxx)
theorem IsCut.pos (hV:IsVal (wc U c) S0 V) (h:IsCut U c S0 G V L m) (h0:0 < gr V G) (hi:gr V G < Inf):1≤m∧L≠[]∧∀op ∈ L,∃u ∈ U,u.op=op:=by
 obtain ⟨g,e,hg0,hgi,hgm,hx⟩:=h.gst0 h0 hi
 obtain ⟨op,ho,e1⟩:=h.at_
 refine ⟨?_,(fun e2=>by rw [e2] at ho; cases ho),fun op ho=>?_⟩
 ·have:=xo_pos hV hg0 ((hx op).1 ho); omega
 ·obtain ⟨a,ha,rfl,_⟩:=(hx op).1 ho
  obtain ⟨u,hu,_,rfl⟩:=arcs_mem ha
  exact ⟨u,hu,rfl⟩
def sumM (out:List (List Nat × Nat)):Nat:=(out.map (·.2)).sum
theorem LmC.pot {r:Option (List (List Nat × Nat))} (h:LmC U S0 G c r) (hz:Szs U S0 N C c):∀out,r=some out →
  ∃H:List Nat→Nat,H S0=sumM out∧(∀x,(∀f ∈ G,f ∈ x)→H x=0)∧(∀x q x',Stp U x q x'→H x≤H x'+c q)∧∀x,H x≤sumM out:=by
 induction h with
 | inf hV h=>intro out e; cases e
 | nil hV h =>
  intro out e
  cases e
  exact ⟨fun _=>0,rfl,fun _ _=>rfl,fun _ _ _ _=>Nat.zero_le _,fun _=>Nat.zero_le _⟩
 | @cut c V L m r hV h0 hi hc hr ih =>
  intro out e
  cases r with
  | none=>cases e
  | some o =>
   cases e
   obtain ⟨H,h1,h2,h3,h4⟩:=ih (hz.sub L m) o rfl
   obtain ⟨P,p1,p2,p3⟩:=hc.landmark hz hV h0 hi
   classical
   have es:sumM ((L,m) :: o)=m+sumM o:=by simp [sumM]
   obtain ⟨K,hK⟩:∃K:List Nat→Nat,∀x,K x=(if P x then m else 0)+H x:=⟨_,fun _=>rfl⟩
   have eo:sumM ((fun x=>(L,m) :: x) o)=m+sumM o:=es
   rw [eo]
   refine ⟨K,by rw [hK,if_pos p1,h1],fun x hx=>?_,fun x q x' hs=>?_,fun x=>?_⟩
   ·rw [hK,if_neg fun hp=>p2 x hp hx,h2 x hx]
   ·rw [hK,hK]
    have h5:=h3 x q x' hs
    by_cases hq:q ∈ L
    ·have hm:=hc.le q hq
     have e2:sub c L m q=c q - m:=by unfold sub; rw [if_pos hq]
     rw [e2] at h5
     have:(if P x then m else 0)≤m:=by split <;> omega
     have h6:0≤(if P x' then m else 0):=Nat.zero_le _
     omega
    ·have e2:sub c L m q=c q:=by unfold sub; rw [if_neg hq]
     rw [e2] at h5
     by_cases hp:P x
     ·rw [if_pos hp,if_pos (p3 x q x' hq hs hp)]; omega
     ·rw [if_neg hp]; omega
   ·rw [hK]
    have:=h4 x
    have:(if P x then m else 0)≤m:=by split <;> omega
    omega
theorem LmC.each {r:Option (List (List Nat × Nat))} (h:LmC U S0 G c r) (hz:Szs U S0 N C c):∀out,r=some out→∀p ∈ out,1≤p.2∧p.1≠[]∧p.1.Pairwise (· < ·)∧(∀op ∈ p.1,∃u ∈ U,u.op=op) ∧
  ∃P:List Nat→Prop,P S0∧(∀x,P x→¬∀f ∈ G,f ∈ x)∧∀x q x',q ∉ p.1→Stp U x q x'→P x→P x':=by
 induction h with
 | inf hV h=>intro out e; cases e
 | nil hV h=>intro out e; cases e; simp
 | @cut c V L m r hV h0 hi hc hr ih =>
  intro out e
  cases r with
  | none=>cases e
  | some o =>
   cases e
   intro p hp
   rcases List.mem_cons.1 hp with rfl | hp
   ·obtain ⟨a,b,d⟩:=hc.pos hV h0 hi
    exact ⟨a,b,hc.asc,d,hc.landmark hz hV h0 hi⟩
   ·exact ih (hz.sub L m) o rfl p hp
def posN (c:Nat→Nat) (n:Nat):Nat:=((List.range n).filter fun i=>decide (0 < c i)).length
theorem posN_lt (hle:∀i,c i≤V i) (ho:op < k) (h1:c op=0) (h2:0 < V op):posN c k < posN V k:=by
 induction k with
 | zero=>omega
 | succ n ih =>
  have hmono:∀n,posN c n≤posN V n:=by
   intro n
   induction n with
   | zero=>exact Nat.le_refl _
   | succ n ih =>
    unfold posN at ih ⊢
    rw [List.range_succ,List.filter_append,List.filter_append,List.length_append,List.length_append]
    have:=hle n
    by_cases h:0 < c n
    ·have h':0 < V n:=by omega
     simp [h,h']; exact ih
    ·simp [h]; omega
  have hm:=hmono n
  unfold posN at ih hm ⊢
  rw [List.range_succ,List.filter_append,List.filter_append,List.length_append,List.length_append]
  by_cases e:op=n
  ·subst e
   simp [h1,h2]; omega
  ·have:=ih (by omega)
   have:=hle n
   by_cases h:0 < c n
   ·have h':0 < V n:=by omega
    simp [h,h']; omega
   ·simp [h]; omega
theorem posN_le (n:Nat):posN c n≤n:=by
 have:=List.length_filter_le (fun i=>decide (0 < c i)) (List.range n)
 simpa [posN] using this
theorem IsCut.less (hV:IsVal (wc U c) S0 V) (h:IsCut U c S0 G V L m) (h0:0 < gr V G) (hi:gr V G < Inf) {n:Nat} (hn:∀u ∈ U,u.op < n):posN (sub c L m) n < posN c n:=by
 obtain ⟨h1,h2,h3⟩:=h.pos hV h0 hi
 obtain ⟨op,ho,e⟩:=h.at_
 obtain ⟨u,hu,rfl⟩:=h3 op ho
 refine posN_lt (op:=u.op) (fun i=>?_) (hn u hu) ?_ (by omega)
 ·unfold sub; split <;> omega
 ·unfold sub; rw [if_pos ho]; omega
theorem LmC.len {r:Option (List (List Nat × Nat))} (h:LmC U S0 G c r) {n:Nat} (hn:∀u ∈ U,u.op < n):∀out,r=some out→out.length≤posN c n:=by
 induction h with
 | inf hV h=>intro out e; cases e
 | nil hV h=>intro out e; cases e; simp
 | @cut c V L m r hV h0 hi hc hr ih =>
  intro out e
  cases r with
  | none=>cases e
  | some o =>
   cases e
   have:=ih o rfl
   have:=hc.less hV h0 hi hn
   simp; omega
theorem LmC.none_inf {r:Option (List (List Nat × Nat))} (h:LmC U S0 G c r) (hz:Szs U S0 N C c):r=none→∃f ∈ G,∀c' k,¬Der (wc U c') S0 f k:=by
 have mono:∀{c c':Nat→Nat} {f k:Nat},Der (wc U c') S0 f k→∃j,Der (wc U c) S0 f j:=by
  intro c c' f k d
  induction d with
  | base h=>exact ⟨0,.base h⟩
  | step hu kk hk ih =>
   obtain ⟨u,hu2,rfl⟩:=wc_mem hu
   have hex:∀n,∃j,n ∈ u.needs→Der (wc U c) S0 n j:=fun n=>by
    by_cases hn:n ∈ u.needs
    ·obtain ⟨j,hj⟩:=ih n hn
     exact ⟨j,fun _=>hj⟩
    ·exact ⟨0,fun h=>absurd h hn⟩
   exact ⟨_,.step (mem_wc (c:=c) hu2) (fun n=>Classical.choose (hex n)) fun n hn=>Classical.choose_spec (hex n) hn⟩
 induction h with
 | @inf c V hV h =>
  intro _
  apply Classical.byContradiction
  intro hno
  have:gr V G < Inf:=(gr_lt_iff (by unfold Inf; omega)).2 fun f hf=>(hz.fin hV).2 (by
   apply Classical.byContradiction
   intro hn
   refine hno ⟨f,hf,fun c' k d=>hn ?_⟩
   exact mono d)
  omega
 | nil hV h=>intro e; cases e
 | @cut c V L m r hV h0 hi hc hr ih =>
  intro e
  cases r with
  | none=>exact ih (hz.sub L m) rfl
  | some o=>cases e
theorem LmC.some_fin {r:Option (List (List Nat × Nat))} (h:LmC U S0 G c r) (out:List (List Nat × Nat)) (e:r=some out):∃V,IsVal (wc U c) S0 V∧gr V G < Inf:=by
 cases h with
 | inf hV h=>cases e
 | nil hV h=>exact ⟨_,hV,by rw [h]; unfold Inf; omega⟩
 | cut hV h0 hi hc hr=>exact ⟨_,hV,hi⟩
end
end Go.Lm
end
section
namespace Go.Sx
open Go.Rx Go.Lm
inductive Dr (U:List Un) (S:List Nat):Nat→Prop
 | base {f:Nat} (h:f ∈ S):Dr U S f
 | step {u:Un} (hu:u ∈ U) (h:∀n ∈ u.needs,Dr U S n):Dr U S u.makes
section
variable {U:List Un} {S0 G L:List Nat} {c:Nat→Nat}
theorem Dr.wc {f k:Nat} {c':Nat→Nat} (d:Der (wc U c') S0 f k):Dr U S0 f:=by
 induction d with
 | base h=>exact .base h
 | step hu k h ih =>
  obtain ⟨u,hu2,rfl⟩:=wc_mem hu
  exact .step (u:=u) hu2 ih
theorem Dr.der {f:Nat} (d:Dr U S0 f) (c':Nat→Nat):∃k,Der (Lm.wc U c') S0 f k:=by
 induction d with
 | base h=>exact ⟨0,.base h⟩
 | step hu h ih =>
  rename_i u
  have hex:∀n,∃j,n ∈ u.needs→Der (Lm.wc U c') S0 n j:=fun n=>by
   by_cases hn:n ∈ u.needs
   ·obtain ⟨j,hj⟩:=ih n hn
    exact ⟨j,fun _=>hj⟩
   ·exact ⟨0,fun h=>absurd h hn⟩
  exact ⟨_,.step (mem_wc (c:=c') hu) (fun n=>Classical.choose (hex n)) fun n hn=>Classical.choose_spec (hex n) hn⟩
structure Rea (U:List Un) (g:Nat→Prop) (S0:List Nat) (R:Nat→Prop):Prop where
 s0:∀x ∈ S0,R x
 cl:∀u ∈ U,¬g u.makes→(∀n ∈ u.needs,R n)→R u.makes
 der:∀x,R x→Dr U S0 x
theorem Rea.all {R:Nat→Prop} (h:Rea U (fun _=>False) S0 R) {x:Nat} (d:Dr U S0 x):R x:=by
 induction d with
 | base hf=>exact h.s0 _ hf
 | step hu _ ih=>exact h.cl _ hu (fun h=>h) ih
theorem Rea.none {R:Nat→Prop} {N C:Nat} (h:Rea U (fun _=>False) S0 R) (hr:LmC U S0 G c none) (hz:Szs U S0 N C c):∃x ∈ G,¬R x:=by
 obtain ⟨f,hf,hn⟩:=hr.none_inf hz rfl
 exact ⟨f,hf,fun hx=>by
  obtain ⟨k,hk⟩:=(h.der f hx).der c
  exact hn c k hk⟩
theorem Rea.some {R:Nat→Prop} {out:List (List Nat × Nat)} (h:Rea U (fun _=>False) S0 R) (hr:LmC U S0 G c (some out)):∀x ∈ G,R x:=fun x hx=>by
 obtain ⟨V,hV,hg⟩:=hr.some_fin out rfl
 have h1:V x < Inf:=Nat.lt_of_le_of_lt (gr_mem hx) hg
 exact h.all (Dr.wc (hV.der x h1))
def CutS (U:List Un) (S0 G L:List Nat):Prop:=∃P:List Nat→Prop,P S0∧(∀x,P x→¬∀f ∈ G,f ∈ x)∧∀x q x',q ∉ L→Stp U x q x'→P x→P x'
theorem Rea.cut {R:Nat→Prop} {f:Nat} (h:Rea U (fun x=>x=f) S0 R) (hg:∃x ∈ G,¬R x) (hL:∀u ∈ U,u.makes=f→(∀n ∈ u.needs,R n)→u.op ∈ L):CutS U S0 G L:=by
 obtain ⟨g,hgG,hgR⟩:=hg
 refine ⟨fun x=>∀y ∈ x,R y,h.s0,fun x hx hG=>hgR (hx g (hG g hgG)),fun x q x' hq hs hx y hy=>?_⟩
 rcases hs y hy with h1 | ⟨u,hu,rfl,rfl,hn⟩
 ·exact hx y h1
 ·have hR:∀n ∈ u.needs,R n:=fun n hn'=>hx n (hn n hn')
  by_cases e:u.makes=f
  ·exact absurd (hL u hu e hR) hq
  ·exact h.cl u hu e hR
theorem Rea.ach {R R0:Nat→Prop} {f:Nat} (h:Rea U (fun x=>x=f) S0 R) (h0:Rea U (fun _=>False) S0 R0) (hg:∃x ∈ G,¬R x) (hG:∀x ∈ G,R0 x):∃u ∈ U,u.makes=f∧∀n ∈ u.needs,R n:=by
 refine Classical.byContradiction fun hno=>?_
 obtain ⟨g,hgG,hgR⟩:=hg
 have h2:Rea U (fun _=>False) S0 R:=⟨h.s0,fun u hu _ hn=>h.cl u hu (fun e=>hno ⟨u,hu,e,hn⟩) hn,h.der⟩
 exact hgR (h2.all (h0.der g (hG g hgG)))
theorem CutS.dr (h:CutS U S0 G L) {U':List Un} (hU:∀u ∈ U',u ∈ U∧u.op ∉ L):∃x ∈ G,¬Dr U' S0 x:=by
 obtain ⟨P,p1,p2,p3⟩:=h
 refine Classical.byContradiction fun hno=>?_
 have hG:∀x ∈ G,Dr U' S0 x:=fun x hx=>Classical.byContradiction fun hn=>hno ⟨x,hx,hn⟩
 have key:∀f,Dr U' S0 f→∀x,P x→(∀y ∈ S0,y ∈ x)→∃x',P x'∧(∀y ∈ x,y ∈ x')∧f ∈ x':=fun f d=>by
  induction d with
  | base hf=>exact fun x hx hS=>⟨x,hx,fun _ h=>h,hS _ hf⟩
  | step hu _ ih =>
   rename_i u _
   intro x hx hS
   have all:∀l:List Nat,(∀n ∈ l,n ∈ u.needs)→∃x',P x'∧(∀y ∈ x,y ∈ x')∧∀n ∈ l,n ∈ x':=fun l=>by
    induction l with
    | nil=>exact fun _=>⟨x,hx,fun _ h=>h,fun n hn=>by cases hn⟩
    | cons n l ihl =>
     intro hl
     obtain ⟨x1,a1,a2,a3⟩:=ihl fun m hm=>hl m (List.mem_cons_of_mem _ hm)
     obtain ⟨x2,b1,b2,b3⟩:=ih n (hl n (by simp)) x1 a1 fun y hy=>a2 y (hS y hy)
     refine ⟨x2,b1,fun y hy=>b2 y (a2 y hy),fun m hm=>?_⟩
     rcases List.mem_cons.1 hm with rfl | hm
     ·exact b3
     ·exact b2 m (a3 m hm)
   obtain ⟨x1,a1,a2,a3⟩:=all u.needs fun _ h=>h
   have ⟨hu1,hu2⟩:=hU u hu
   refine ⟨u.makes :: x1,p3 x1 u.op _ hu2 (fun f hf=>?_) a1,fun y hy=>List.mem_cons_of_mem _ (a2 y hy),by simp⟩
   rcases List.mem_cons.1 hf with rfl | hf
   ·exact .inr ⟨u,hu1,rfl,rfl,a3⟩
   ·exact .inl hf
 have all:∀l:List Nat,(∀n ∈ l,n ∈ G)→∃x',P x'∧(∀y ∈ S0,y ∈ x')∧∀n ∈ l,n ∈ x':=fun l=>by
  induction l with
  | nil=>exact fun _=>⟨S0,p1,fun _ h=>h,fun n hn=>by cases hn⟩
  | cons n l ihl =>
   intro hl
   obtain ⟨x1,a1,a2,a3⟩:=ihl fun m hm=>hl m (List.mem_cons_of_mem _ hm)
   obtain ⟨x2,b1,b2,b3⟩:=key n (hG n (hl n (by simp))) x1 a1 a2
   refine ⟨x2,b1,fun y hy=>b2 y (a2 y hy),fun m hm=>?_⟩
   rcases List.mem_cons.1 hm with rfl | hm
   ·exact b3
   ·exact b2 m (a3 m hm)
 obtain ⟨x,a1,_,a3⟩:=all G fun _ h=>h
 exact p2 x a1 a3
theorem Val.pot {cs:List Nat} {ks:List (List Nat)} {v:Nat→Rat} (h:Val cs ks v) (hk:∀k ∈ ks,CutS U S0 G k) (hr:∀k ∈ ks,∀q ∈ k,q < cs.length) (hc:∀q,q < cs.length→c q=cs.getD q 0) :
  ∃H:List Nat→Nat,(sumN ks.length v).ceil≤(H S0:Int)∧(∀x,(∀f ∈ G,f ∈ x)→H x=0)∧∀x q x',Stp U x q x'→H x≤H x'+c q:=by
 classical
 have hP:∀j,∃P:List Nat→Prop,j < ks.length→P S0∧(∀x,P x→¬∀f ∈ G,f ∈ x)∧∀x q x',q ∉ ks.getD j []→Stp U x q x'→P x→P x':=fun j=>by
  by_cases hj:j < ks.length
  ·have e:ks.getD j []=ks[j]:=by rw [List.getD_eq_getElem?_getD,List.getElem?_eq_getElem hj]; rfl
   obtain ⟨P,hp⟩:=hk ks[j] (List.getElem_mem hj)
   exact ⟨P,fun _=>by rw [e]; exact hp⟩
  ·exact ⟨fun _=>True,fun h=>absurd h hj⟩
 obtain ⟨P,hP⟩:=Classical.axiomOfChoice hP
 obtain ⟨K,hK⟩:∃K:List Nat→Rat,∀x,K x=sumN ks.length fun j=>if P j x then v j else 0:=⟨_,fun _=>rfl⟩
 have K0:∀x,0≤K x:=fun x=>by
  rw [hK]
  exact sumN_nn fun j hj=>by have:=h.nn j hj; split <;> grind
 have Kc:∀x,0≤(K x).ceil:=fun x=>by
  have:¬(K x).ceil≤-1:=fun hx=>by
   have h1:=Rat.ceil_le_iff.1 hx
   have h2:=K0 x
   have h3:((-1:Int):Rat)=-1:=by simp
   rw [h3] at h1
   grind
  omega
 have step:∀x q x',Stp U x q x'→K x≤K x'+((c q:Nat):Rat):=fun x q x' hs=>by
  rw [hK,hK]
  by_cases hq:q < cs.length
  ·have h1:=h.le q hq
   rw [hc q hq]
   have h2:(sumN ks.length fun j=>if P j x then v j else 0)≤sumN ks.length fun j=>(if P j x' then v j else 0)+(if (inB ks q).getD j false=true then v j else 0):=sumN_le fun j hj=>by
    have hn:=h.nn j hj
    obtain ⟨_,_,p3⟩:=hP j hj
    by_cases hp:P j x
    ·rw [if_pos hp]
     by_cases hm:q ∈ ks.getD j []
     ·have e:(inB ks q).getD j false=true:=by
       rw [List.getD_eq_getElem?_getD] at hm ⊢
       rw [List.getElem?_eq_getElem hj] at hm
       unfold inB
       rw [List.getElem?_map,List.getElem?_eq_getElem hj]
       simpa using hm
      rw [if_pos e]
      split <;> grind
     ·rw [if_pos (p3 x q x' hm hs hp)]
      split <;> grind
    ·rw [if_neg hp]
     split <;> split <;> grind
   rw [sumN_add] at h2
   grind
  ·have h2:(sumN ks.length fun j=>if P j x then v j else 0)≤sumN ks.length fun j=>if P j x' then v j else 0:=sumN_le fun j hj=>by
    have hn:=h.nn j hj
    obtain ⟨_,_,p3⟩:=hP j hj
    by_cases hp:P j x
    ·have hm:q ∉ ks.getD j []:=fun hm=>by
      rw [List.getD_eq_getElem?_getD,List.getElem?_eq_getElem hj] at hm
      exact hq (hr _ (List.getElem_mem hj) q hm)
     rw [if_pos hp,if_pos (p3 x q x' hm hs hp)]
     exact Rat.le_refl
    ·rw [if_neg hp]
     split <;> grind
   have:=nc_nn (c q)
   grind
 refine ⟨fun x=>(K x).ceil.toNat,?_,fun x hx=>?_,fun x q x' hs=>?_⟩
 ·have e:K S0=sumN ks.length v:=by
   rw [hK]
   exact sumN_congr fun j hj=>by rw [if_pos (hP j hj).1]
  have:=Kc S0
  rw [←e]
  show _≤(((K S0).ceil.toNat:Nat):Int)
  omega
 ·have e:K x=0:=by
   rw [hK]
   exact sumN_zero fun j hj=>by rw [if_neg fun hp=>(hP j hj).2.1 x hp hx]
  show (K x).ceil.toNat=0
  rw [e]
  decide
 ·have h1:=step x q x' hs
  have h2:(K x).ceil≤(K x').ceil+(c q:Nat):=by
   rw [Rat.ceil_le_iff,Rat.intCast_add,Rat.intCast_natCast]
   have h3:=Rat.ceil_le_iff.1 (Int.le_refl (K x').ceil)
   grind
  have h3:=Kc x
  have h4:=Kc x'
  show (K x).ceil.toNat≤(K x').ceil.toNat+c q
  omega
end
end Go.Sx
end
section
namespace Go.Sx
theorem sumN_first {n:Nat} {f:Nat→Rat}:sumN (n+1) f=f 0+sumN n fun i=>f (i+1):=by
 induction n with
 | zero=>simp only [sumN]; grind
 | succ n ih =>
  have e:sumN (n+1+1) f=sumN (n+1) f+f (n+1):=rfl
  rw [e,ih]
  simp only [sumN]
  grind
def gLs (left:Nat→Nat) (k:List Nat):Nat:=k.foldl (fun m q=>min m (left q)) (left (k.headD 0))
def gLf (left:Nat→Nat) (k:List Nat) (q:Nat):Nat:=if q ∈ k then left q - gLs left k else left q
def grL:(Nat→Nat)→List (List Nat)→List Nat
 | _,[]=>[]
 | left,k :: ks=>gLs left k :: grL (gLf left k) ks
theorem fold_min {left:Nat→Nat}:∀(k:List Nat) (m:Nat),k.foldl (fun m q=>min m (left q)) m≤m∧∀q ∈ k,k.foldl (fun m q=>min m (left q)) m≤left q
 | [],m=>⟨Nat.le_refl _,fun q hq=>by cases hq⟩
 | x :: k,m=>by
  obtain ⟨h1,h2⟩:=fold_min (left:=left) k (min m (left x))
  rw [List.foldl_cons]
  refine ⟨by omega,fun q hq=>?_⟩
  rcases List.mem_cons.1 hq with rfl | hq
  ·omega
  ·exact h2 q hq
theorem gLs_le {left:Nat→Nat} {k:List Nat} {q:Nat} (h:q ∈ k):gLs left k≤left q:=(fold_min k _).2 q h
theorem grL_len:∀(ks:List (List Nat)) (left:Nat→Nat),(grL left ks).length=ks.length
 | [],_=>rfl
 | k :: ks,left=>by simp only [grL,List.length_cons]; rw [grL_len ks]
theorem grL_val:∀(ks:List (List Nat)) (left:Nat→Nat) (op:Nat),sumN ks.length (fun j=>if (inB ks op).getD j false=true then (((grL left ks).getD j 0:Nat):Rat) else 0)≤((left op:Nat):Rat)
 | [],left,op=>by simp only [List.length_nil,sumN]; exact nc_nn _
 | k :: ks,left,op=>by
  rw [List.length_cons,sumN_first]
  have ih:=grL_val ks (gLf left k) op
  have e:(sumN ks.length fun i=>if (inB (k :: ks) op).getD (i+1) false=true then (((grL left (k :: ks)).getD (i+1) 0:Nat):Rat) else 0)=sumN ks.length fun j=>if (inB ks op).getD j false=true then (((grL (gLf left k) ks).getD j 0:Nat):Rat) else 0:=rfl
  rw [e]
  have e0:(inB (k :: ks) op).getD 0 false=decide (op ∈ k):=rfl
  have e1:(grL left (k :: ks)).getD 0 0=gLs left k:=rfl
  rw [e0,e1]
  by_cases h:op ∈ k
  ·have h1:=gLs_le (left:=left) h
   have e2:gLf left k op=left op - gLs left k:=by unfold gLf; rw [if_pos h]
   rw [e2] at ih
   have e3:((left op:Nat):Rat)=((left op - gLs left k:Nat):Rat)+((gLs left k:Nat):Rat):=by
    rw [←Rat.intCast_natCast,←Rat.intCast_natCast,←Rat.intCast_natCast,←Rat.intCast_add,Rat.intCast_inj]
    omega
   simp only [h,decide_true,if_true]
   grind
  ·have e2:gLf left k op=left op:=by unfold gLf; rw [if_neg h]
   rw [e2] at ih
   simp only [h,decide_false,Bool.false_eq_true,if_false]
   grind
theorem greedy_val {cs:List Nat} {ks:List (List Nat)}:Val cs ks fun j=>(((grL (fun q=>cs.getD q 0) ks).getD j 0:Nat):Rat) :=
 ⟨fun _ _=>nc_nn _,fun op _=>grL_val ks _ op⟩
theorem Val.one {cs:List Nat} {ks:List (List Nat)} {v:Nat→Rat} (h:Val cs ks v) {j:Nat} (hj:j < ks.length) (hne:∀k ∈ ks,k≠[]) (hr:∀k ∈ ks,∀q ∈ k,q < cs.length):∃q,q < cs.length∧v j≤((cs.getD q 0:Nat):Rat):=by
 have hm:=List.getElem_mem hj
 obtain ⟨q,hq⟩:=List.exists_mem_of_ne_nil _ (hne _ hm)
 have hql:=hr _ hm q hq
 refine ⟨q,hql,Rat.le_trans ?_ (h.le q hql)⟩
 have e:sumN ks.length (fun i=>if i=j then v j else 0)=v j:=by
  rw [sumN_one hj fun i _ hne=>by rw [if_neg hne]]
  simp
 rw [←e]
 refine sumN_le fun i hi=>?_
 have hn:=h.nn i hi
 by_cases ei:i=j
 ·subst ei
  have:(inB ks q).getD i false=true:=by
   rw [List.getD_eq_getElem?_getD]
   unfold inB
   rw [List.getElem?_map,List.getElem?_eq_getElem hi]
   simpa using hq
  rw [if_pos rfl,if_pos this]
  exact Rat.le_refl
 ·rw [if_neg ei]
  split <;> grind
end Go.Sx
end
