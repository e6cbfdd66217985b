/-
  A part of the proof of this claim's statement (RxW5, RxW6): plain theorems; no conditions beyond those each names.
-/
import Derived.Test.YtolkjbmcindhjaaGreatPk12
set_option maxRecDepth 100000
set_option linter.unusedSimpArgs false
set_option linter.unusedVariables false
set_option linter.unusedSectionVars false
section
namespace Go.Proofs.YtolkjbmcindhjaaGreat
open Go Go.W Go.Tk Go.Rx
structure RlR (b:Nat) (vars:List Nat) (goal:List Fc) (U:List Un) (vv gv fv uv nd fr:Value) (rs:List Ru) (ps:List (Cell1 × List Nat)) (w:World):Prop where
 obj:w.heap[b]? = some (.cells #[vv,.slice none 0 0,gv,.slice none 0 0,fv,.int .i64 (vars.sum:Nat),uv,nd,fr] 133 (0,0))
 vvw:Vw w vv nE vars
 gvw:Vw w gv fcE goal
 first:Vw w fv nE (firsts vars vars.length)
 un:Vw w uv ruE rs
 needs:∀r ∈ rs,Vw w r.nv.1 nE r.u.needs
 free:Vw w fr nE (frF U)
 needed:Vw w nd sv1 ps
 rows:∀p ∈ ps,Vw w p.1.1 nE p.2
 eu:rs.map (·.u)=U
 ep:ps.map (·.2)=(List.range vars.sum).map (nbF U)
theorem RlR.kp {b:Nat} {vars:List Nat} {goal:List Fc} {U:List Un} {vv gv fv uv nd fr:Value} {rs:List Ru} {ps:List (Cell1 × List Nat)} {w w':World} (h:RlR b vars goal U vv gv fv uv nd fr rs ps w) (k:Kp [] w w'):RlR b vars goal U vv gv fv uv nd fr rs ps w' :=
 ⟨k.blk h.obj (by simp),h.vvw.kp0 k,h.gvw.kp0 k,h.first.kp0 k,h.un.kp0 k,fun r hr=>(h.needs r hr).kp0 k,h.free.kp0 k,h.needed.kp0 k,fun p hp=>(h.rows p hp).kp0 k,h.eu,h.ep⟩
theorem RlI.rd {b:Nat} {vv gv fv:Value} {vars:List Nat} {goal:List Fc} {U:List Un} {w w1:World} {F:List Nat} {tb:Nat} {t:Tk} (h:RlI b vv gv fv vars U w F (FrA vv gv vars goal tb t) w1):∃uv nd fr rs ps,RlR b vars goal U vv gv fv uv nd fr rs ps w1:=by
 obtain ⟨uv,nd,fr,rs,ps,h1,h2,h3⟩:=h
 have hf:=At.drop (At.drop (At.drop (At.drop (At.drop (At.drop h3)))))
 have ht:=At.drop (At.drop (At.drop (At.drop (At.drop h3))))
 have hfree:=(At.own (At.drop (At.drop (At.drop (At.drop h3))))).vw
 rw [h1] at hfree
 refine ⟨uv,nd,fr,rs,ps,At.obj h3,(At.own hf).vw,(At.own (At.drop hf)).vw,(At.own (At.drop h3)).vw,(At.own (At.drop (At.drop h3))).vw,fun r hr=>?_,hfree,(TabA.own ht).vw,fun p hp=>?_,h1,h2⟩
 ·exact (At.drop (At.drop (At.drop h3))).vws (p:=(r.nv,r.u.needs)) (List.mem_map.2 ⟨r,hr,rfl⟩)
 ·obtain ⟨i,hi,rfl⟩:=List.getElem_of_mem hp
  exact (TabA.row ht (List.getElem?_eq_getElem hi)).vw
def tabN (N:Nat) (g:Nat→Nat):List Nat:=(List.range N).map g
theorem tabN_len (N:Nat) (g:Nat→Nat):(tabN N g).length=N:=by simp [tabN]
theorem tabN_at {N k:Nat} {g:Nat→Nat} (h:k < N):(tabN N g)[k]? = some (g k):=by simp [tabN,h]
theorem tabN_set {N k x:Nat} {g:Nat→Nat} (h:k < N):(tabN N g).set k x=tabN N (updN g k x):=by
 unfold tabN
 apply List.ext_getElem
 ·simp
 ·intro i h1 h2
  rw [List.getElem_set]
  by_cases e:k=i
  ·subst e; simp
  ·rw [if_neg e]; simp [updN_ne (Ne.symm e)]
theorem tabN_congr {N:Nat} {f g:Nat→Nat} (h:∀i,i < N→f i=g i):tabN N f=tabN N g:=List.map_congr_left fun i hi=>h i (List.mem_range.1 hi)
def oO (v:Value):Obj:=.cells #[v] 22 (0,0)
def VI (ob qb N:Nat) (out:Nat→Nat) (l:List En) (w:World) (F:List Nat) (B:Asr) (w':World):Prop :=
 ∃ov sv,At w F (Star (ObjA qb (qO sv)) (Star (OwnA sv 221 2 enE l) (Star (ObjA ob (oO ov)) (Star (OwnA ov 3 1 nE (tabN N out)) B)))) w'
theorem VI.kp0 {ob qb N:Nat} {out:Nat→Nat} {l:List En} {w w1 w2:World} {F:List Nat} {B:Asr} (hB:Lcl B) (h:VI ob qb N out l w F B w1) (k:Kp [] w1 w2):VI ob qb N out l w F B w2:=by
 obtain ⟨ov,sv,h⟩:=h
 exact ⟨ov,sv,h.kp0 (Lcl.obj.star (Lcl.own.star (Lcl.obj.star (Lcl.own.star hB)))) k⟩
theorem VI.frm {ob qb N:Nat} {out:Nat→Nat} {l:List En} {w w1:World} {F:List Nat} {B:Asr} (h:VI ob qb N out l w F B w1):At w F B w1:=by
 obtain ⟨ov,sv,h⟩:=h
 exact h.drop.drop.drop.drop
theorem VI.by {ob qb N:Nat} {out:Nat→Nat} {l:List En} {w w1:World} {F:List Nat} {B C:Asr} (h:VI ob qb N out l w F B w1) (i:Imp B C):VI ob qb N out l w F C w1:=by
 obtain ⟨ov,sv,h⟩:=h
 exact ⟨ov,sv,h.by (Imp.un (Imp.un (Imp.un (Imp.un i))))⟩
theorem VI.kp {ob qb N:Nat} {out:Nat→Nat} {l:List En} {w w1:World} {F:List Nat} {B:Asr} (h:VI ob qb N out l w F B w1):Kp F w w1:=by
 obtain ⟨ov,sv,h⟩:=h
 exact h.kp
theorem VI.inn {ob qb N:Nat} {out:Nat→Nat} {l:List En} {w w1:World} {F:List Nat} {A B:Asr} {ov sv:Value} (h:At w F (Star A (Star (ObjA qb (qO sv)) (Star (OwnA sv 221 2 enE l) (Star (ObjA ob (oO ov)) (Star (OwnA ov 3 1 nE (tabN N out)) B))))) w1):VI ob qb N out l w F (Star A B) w1:=⟨ov,sv,h.by Imp.bk5⟩
def rcO (out:Nat→Nat) (f v:Nat):Nat→Nat:=if v < out f then updN out f v else out
def rcL (out:Nat→Nat) (l:List En) (f v:Nat):List En:=if v < out f then upL (l ++ [(v,f)]) l.length else l
theorem reach_spec {w w1:World} {F:List Nat} {B:Asr} (ob qb N:Nat) (out:Nat→Nat) (l:List En) (f v:Nat) (hB:Lcl B) (h:VI ob qb N out l w F B w1) (hf:f < N) (hl:l.length≤900000) :
  Calls Tryz.prog 129 [.int .i64 (f:Nat),.int .i64 (v:Nat),.pointer (some ⟨ob,0,none⟩),.pointer (some ⟨qb,0,none⟩)].toArray w1 fun x w'=>∃y,x=.returned y∧VI ob qb N (rcO out f v) (rcL out l f v) w F B w':=by
 obtain ⟨ov,sv,h1⟩:=h
 refine enter Tryz.func129 mixed low129 (Nat.le_of_ble_eq_true rfl) ?_
 simp only [L129]
 have ho:=h1.drop.drop.obj
 unfold oO at ho
 have hO:=h1.drop.drop.drop.own
 have hf2:(f:Int) < (tabN N out).length:=by rw [tabN_len]; omega
 have ec:=nE_cell hO.vw (tabN_at (g:=out) hf)
 by_cases hlt:v < out f
 ·have hlt':(v:Int) < (out f:Nat):=by omega
  have e1:rcO out f v=updN out f v:=if_pos hlt
  have e2:rcL out l f v=upL (l ++ [(v,f)]) l.length:=if_pos hlt
  rw [e1,e2]
  have ec':w1.cell? ⟨ov.blk,f,none⟩=some (.int .i64 (out f:Nat)):=by
   have:=hO.cell nE_len (tabN_at (g:=out) hf) (o:=0) (by omega)
   simpa [nE] using this
  simp (disch:=omega) [cell_blk ho,hO.idx,ec',hlt,hlt']
  refine (h1.by Imp.fr4).store1 (Lcl.obj.star (Lcl.own.star (Lcl.obj.star hB))) nE_len nE_one (k:=f) (by rw [tabN_len]; exact hf) (x:=v) rfl fun w2 h2=>?_
  rw [tabN_set hf] at h2
  have h3:=h2.by Imp.bk4
  have hq:QI qb l w F (Star (ObjA ob (oO ov)) (Star (OwnA ov 3 1 nE (tabN N (updN out f v))) B)) w2:=⟨sv,h3⟩
  simp
  refine cl_of (hPush_spec qb l (v,f) (Lcl.obj.star (Lcl.own.star hB)) hq hl) ?_
  rintro _ w4 ⟨sv',h4⟩
  simp
  exact ⟨ov,sv',h4⟩
 ·have hlt':¬(v:Int) < (out f:Nat):=by omega
  have e1:rcO out f v=out:=if_neg hlt
  have e2:rcL out l f v=l:=if_neg hlt
  rw [e1,e2]
  have ec':w1.cell? ⟨ov.blk,f,none⟩=some (.int .i64 (out f:Nat)):=by
   have:=hO.cell nE_len (tabN_at (g:=out) hf) (o:=0) (by omega)
   simpa [nE] using this
  simp (disch:=omega) [cell_blk ho,hO.idx,ec',hlt,hlt']
  exact ⟨ov,sv,h1⟩
end Go.Proofs.YtolkjbmcindhjaaGreat
end
section
namespace Go.Proofs.YtolkjbmcindhjaaGreat
open Go Go.W Go.Tk Go.Rx Go.Maps
def intV (k:Int):Value:=.int .i64 k
def zok (z:Int):Prop:=-9223372036854775808≤z∧z≤9223372036854775807
theorem wf_int {z:Int} (h:zok z):(Lit.int .i64 z).wf=true:=by
 have h1:IntKind.i64.min=-9223372036854775808:=rfl
 have h2:IntKind.i64.max=9223372036854775807:=rfl
 unfold zok at h
 simp only [Lit.wf,Bool.and_eq_true,decide_eq_true_eq]
 omega
theorem keyI:KeyEnc Tryz.prog 3 intV zok:={
 keyed:=int_keyed Tryz.underlying3
 lit:=fun d hd=>⟨_,keyOf_int_mk Tryz.underlying3 (wf_int hd)⟩
 inj:=fun x y h=>by
  injection h with _ h }
theorem zbool (w:World):(zeroValue 4).run Tryz.prog w=.ok (.bool false) w:=Tryz.zeroValue4 w
def LkP (w:World) (wv:Value) (ok:Nat→Bool):Prop :=
 (wv=.map none∧∀i,ok i=true)∨∃mb M,wv=.map (some mb)∧MapM w mb intV Value.bool zok M∧∀i:Nat,i≤100000→((getM M (i:Int)).map Value.bool).getD (.bool false)=.bool (!(ok i))
theorem LkP.kp {w w':World} {wv:Value} {ok:Nat→Bool} (h:LkP w wv ok) (k:Kp [] w w'):LkP w' wv ok:=by
 rcases h with h | ⟨mb,M,h1,h2,h3⟩
 ·exact .inl h
 ·exact .inr ⟨mb,M,h1,h2.kp k (by simp),h3⟩
theorem LkP.look {w:World} {wv:Value} {ok:Nat→Bool} {i:Nat} {K:Kont Value} (h:LkP w wv ok) (hi:i≤100000) (H:K.run (.bool (!(ok i)))):@rdH Tryz.prog (Instr.lookup 147 wv (.int .i64 (i:Nat)) false) w K:=by
 rcases h with ⟨rfl,h⟩ | ⟨mb,M,rfl,h2,h3⟩
 ·rw [h i] at H
  exact look_nil (x:=(i:Int)) keyI Tryz.underlying147 zbool (by unfold zok; omega) H
 ·refine h2.look1 (x:=(i:Int)) keyI Tryz.underlying147 zbool (by unfold zok; omega) ?_
  rw [h3 i hi]
  exact H
structure UnOk (U:List Un) (N:Nat):Prop where
 nod:∀u ∈ U,u.needs.Nodup
 rng:∀u ∈ U,∀n ∈ u.needs,n < N
 made:∀u ∈ U,u.makes < N
 cost:∀u ∈ U,u.cost≤1048576
 op:∀u ∈ U,u.op≤4096
def bE (b:Bool):List Value:=[.bool b]
theorem bE_len (b:Bool):(bE b).length=1:=rfl
theorem bE_one (b:Bool):(bE b).all oneC=true:=rfl
def tabB (N:Nat) (g:Nat→Bool):List Bool:=(List.range N).map g
theorem tabB_len (N:Nat) (g:Nat→Bool):(tabB N g).length=N:=by simp [tabB]
theorem tabB_at {N k:Nat} {g:Nat→Bool} (h:k < N):(tabB N g)[k]? = some (g k):=by simp [tabB,h]
theorem tabB_set {N k:Nat} {x:Bool} {g:Nat→Bool} (h:k < N):(tabB N g).set k x=tabB N (updN g k x):=by
 unfold tabB
 apply List.ext_getElem
 ·simp
 ·intro i h1 h2
  rw [List.getElem_set]
  by_cases e:k=i
  ·subst e; simp
  ·rw [if_neg e]; simp [updN_ne (Ne.symm e)]
theorem VI.store {α:Type} {enc:α→List Value} {E ob qb N:Nat} {out:Nat→Nat} {l:List En} {w w1:World} {F:List Nat} {B:Asr} {v:Value} {xs:List α} {KW:Kont World} {k:Nat} {x:α} {cs:List Value} (hB:Lcl B) (h:VI ob qb N out l w F (Star (OwnA v E 1 enc xs) B) w1)
  (he:∀x,(enc x).length=1) (h1:∀x,(enc x).all oneC=true) (hk:k < xs.length) (hcs:cs=enc x) (H:∀w2,VI ob qb N out l w F (Star (OwnA v E 1 enc (xs.set k x)) B) w2→KW.run w2):@stJ w1 ⟨v.blk,k,none⟩ cs KW:=by
 obtain ⟨ov,sv,h⟩:=h
 exact (h.by Imp.fr5).store1 (Lcl.obj.star (Lcl.own.star (Lcl.obj.star (Lcl.own.star hB)))) he h1 hk hcs fun w2 h2=>H w2 ⟨ov,sv,h2.by Imp.bk5⟩
theorem VI.store2 {α:Type} {enc:α→List Value} {E ob qb N:Nat} {out:Nat→Nat} {l:List En} {w w1:World} {F:List Nat} {A B:Asr} {v:Value} {xs:List α} {KW:Kont World} {k:Nat} {x:α} {cs:List Value} (hA:Lcl A) (hB:Lcl B) (h:VI ob qb N out l w F (Star A (Star (OwnA v E 1 enc xs) B)) w1)
  (he:∀x,(enc x).length=1) (h1:∀x,(enc x).all oneC=true) (hk:k < xs.length) (hcs:cs=enc x) (H:∀w2,VI ob qb N out l w F (Star A (Star (OwnA v E 1 enc (xs.set k x)) B)) w2→KW.run w2):@stJ w1 ⟨v.blk,k,none⟩ cs KW :=
 (h.by Imp.sw).store (hA.star hB) he h1 hk hcs fun w2 h2=>H w2 (h2.by Imp.sw)
def upto (k:Nat) (g:Nat→Nat) (d:Nat):Nat→Nat:=fun j=>if j < k then g j else d
theorem upto_succ (k:Nat) (g:Nat→Nat) (d:Nat):updN (upto k g d) k (g k)=upto (k+1) g d:=by
 funext j
 by_cases e:j=k
 ·subst e; simp [upto]
 ·rw [updN_ne e]; unfold upto
  by_cases h:j < k
  ·rw [if_pos h,if_pos (by omega)]
  ·rw [if_neg h,if_neg (by omega)]
theorem upto_all (N:Nat) (g:Nat→Nat) (d:Nat):tabN N (upto N g d)=tabN N g:=tabN_congr fun i hi=>by unfold upto; rw [if_pos hi]
theorem upto_zero (N d:Nat) (g:Nat→Nat):List.replicate N d=tabN N (upto 0 g d):=by
 apply List.ext_getElem
 ·simp [tabN]
 ·intro i h1 h2
  simp [tabN,upto]
def stN (vars s:List Nat) (k:Nat):List Nat:=(List.range k).map fun v=>psum vars v+s.getD v 0
theorem stN_succ (vars s:List Nat) (k:Nat):stN vars s (k+1)=stN vars s k ++ [psum vars k+s.getD k 0]:=by
 unfold stN; rw [List.range_succ]; simp
def opN (U:List Un) (done:Nat→Bool) (j:Nat):Nat:=match U[j]? with | some u=>opens done u.needs | none=>0
def lfK (U:List Un) (done:Nat→Bool) (l:List Nat) (j:Nat):Nat:=opN U done j+if j ∈ l then 1 else 0
theorem lfK_start {U:List Un} {done:Nat→Bool} {f:Nat} (hn:∀u ∈ U,u.needs.Nodup) (hf:done f=false):opN U done=lfK U (updN done f true) (nbF U f):=by
 funext j
 unfold lfK opN
 cases h:U[j]? with
 | none =>
  have:j ∉ nbF U f:=fun hj=>by
   obtain ⟨u,hu,_⟩:=nbF_mem.1 hj
   rw [h] at hu; cases hu
  simp [this]
 | some u =>
  have e:(j ∈ nbF U f)↔f ∈ u.needs:=by
   rw [nbF_mem]
   constructor
   ·rintro ⟨v,hv,hf2⟩
    rw [h] at hv; cases hv; exact hf2
   ·exact fun hf2=>⟨u,h,hf2⟩
  simp only [e]
  exact opens_upd (hn u (List.mem_of_getElem? h)) hf
theorem lfK_step {U:List Un} {done:Nat→Bool} {i:Nat} {l:List Nat} (hn:i ∉ l):updN (lfK U done (i :: l)) i (opN U done i)=lfK U done l:=by
 funext j
 by_cases e:j=i
 ·subst e; simp [lfK,hn]
 ·rw [updN_ne e]; simp [lfK,e]
theorem lfK_nil {U:List Un} {done:Nat→Bool}:lfK U done []=opN U done:=by
 funext j; simp [lfK]
theorem der_lt {U:List Un} {S:List Nat} {N f k:Nat} (hU:∀u ∈ U,u.makes < N) (hS:∀x ∈ S,x < N) (d:Der U S f k):f < N:=by
 cases d with
 | base h=>exact hS _ h
 | step hu kk h=>exact hU _ hu
def VwI (U:List Un) (ok:Nat→Bool) (S vars:List Nat) (N M ob qb b:Nat) (lv dv wv cl:Value) (w:World) (n:Nat) (ρ:Env) (w':World):Prop :=
 ∃out l q done cur,(N - dones done N) * (M+1)+l.length=n∧Dj U ok S S out q done cur []∧Hp l q∧l.length≤vars.length+M+dones done N * M ∧
  ρ 0=.pointer (some ⟨b,0,none⟩)∧ρ 2=wv∧ρ 7=.pointer (some ⟨ob,0,none⟩)∧ρ 9=lv∧ρ 12=.pointer (some ⟨qb,0,none⟩)∧ρ 13=cl∧ρ 18=dv∧VI ob qb N out l w [] (Star (OwnA dv 4 1 bE (tabB N done)) (Star (OwnA lv 3 1 nE (tabN M (opN U done))) Emp)) w'
set_option maxHeartbeats 8000000 in
theorem values_spec {w:World} {b:Nat} {vars:List Nat} {goal:List Fc} {U:List Un} {vv gv fv uv nd fr:Value} {rs:List Ru} {ps:List (Cell1 × List Nat)} (sv wv:Value) (s:List Nat) (ok:Nat→Bool)
  (hR:RlR b vars goal U vv gv fv uv nd fr rs ps w) (hs:Vw w sv nE s) (hw:LkP w wv ok) (hl:s.length=vars.length) (hsr:∀v,v < vars.length→s.getD v 0 < vars.getD v 0) (hU:UnOk U vars.sum) (hvl:vars.length≤12) (hN:vars.sum≤768) (hUl:U.length≤160) :
  Calls Tryz.prog 72 [.pointer (some ⟨b,0,none⟩),sv,wv].toArray w fun e w'=>∃u,e=.returned u∧∃V,IsVal (allow ok U) (stN vars s vars.length) V∧Nw w w' u 3 1 nE (tabN vars.sum V):=by
 refine enter Tryz.func72 mixed low72 (Nat.le_of_ble_eq_true rfl) ?_
 simp only [L72]
 obtain ⟨N,hNe⟩:∃N,N=vars.sum:=⟨_,rfl⟩
 have hob:=hR.obj
 rw [←hNe] at hob hN hU ⊢
 obtain ⟨M,hMe⟩:∃M,M=U.length:=⟨_,rfl⟩
 have hrl:rs.length=M:=by rw [hMe,←hR.eu]; simp
 have h0:At w [] Emp w:=At.start rfl
 have h1:=h0.made (E:=3) (enc:=nE) (x:=0) (z:=[.int .i64 0]) (n:=N) .emp rfl nE_len (by unfold maxLen; omega)
 obtain ⟨ov,hov⟩:∃ov,ov=Value.slice (some ⟨w.heap.size,0,none⟩) N N:=⟨_,rfl⟩
 obtain ⟨w1,hw1⟩:∃w1,w1=w.alloc (.cells (rowOf [.int .i64 0] N).toArray 3):=⟨_,rfl⟩
 rw [←hov,←hw1] at h1
 -- the values
 refine seq_cut (fun ρ w'=>ρ 0=.pointer (some ⟨b,0,none⟩)∧ρ 1=sv∧ρ 2=wv∧w'=w) ?_ ?_
 ·simp
 rintro ρ w ⟨g0,g1,g2,rfl⟩
 obtain ⟨ob,hob1⟩:∃ob,ob=w1.heap.size:=⟨_,rfl⟩
 refine seq_cut (fun ρ w'=>ρ 0=.pointer (some ⟨b,0,none⟩)∧ρ 1=sv∧ρ 2=wv∧ρ 7=.pointer (some ⟨ob,0,none⟩)∧At w [] (Star (ObjA ob (oO ov)) (Star (OwnA ov 3 1 nE (tabN N (upto 0 (fun _=>Inf) 0))) Emp)) w') ?_ ?_
 ·have h2:At w [] (Star (ObjA ob (.cells #[.slice none 0 0] 22 (0,0))) (Star (OwnA ov 3 1 nE (List.replicate N 0)) Emp)) (w1.alloc (.cells #[.slice none 0 0] 22 (0,0))):=by rw [hob1]; exact h1.alloc _ (Lcl.own.star .emp)
  have c1:=h1.own.c1
  have o1:=h1.own.o1
  simp [g0,cell_blk hob]
  refine gd_mk (by omega) ?_
  simp [←hov,←hw1,←hob1,c1]
  refine h2.st (Lcl.own.star .emp) (by simp) (by simp [o1]) fun w3 h3=>?_
  simp [g0,g1,g2,←hob1]
  rw [upto_zero N 0 (fun _=>Inf)] at h3
  unfold oO
  simpa using h3
 clear g0 g1 g2
 rintro ρ w2 ⟨g0,g1,g2,g7,h2⟩
 have hInf:((Inf:Nat):Int)=1125899906842624:=rfl
 refine seq_cut (fun ρ w'=>ρ 0=.pointer (some ⟨b,0,none⟩)∧ρ 1=sv∧ρ 2=wv∧ρ 7=.pointer (some ⟨ob,0,none⟩)∧At w [] (Star (ObjA ob (oO ov)) (Star (OwnA ov 3 1 nE (tabN N fun _=>Inf)) Emp)) w') ?_ ?_
 ·have ho2:=h2.obj
  unfold oO at ho2
  simp [g7,cell_blk ho2,h2.drop.own.vw.len,tabN_len]
  refine range_loop (n:=N) (by omega) (fun k ρ w'=>ρ 0=.pointer (some ⟨b,0,none⟩)∧ρ 1=sv∧ρ 2=wv∧ρ 7=.pointer (some ⟨ob,0,none⟩)∧At w [] (Star (ObjA ob (oO ov)) (Star (OwnA ov 3 1 nE (tabN N (upto k (fun _=>Inf) 0))) Emp)) w') (by simp) (by simp)
   ⟨by simp [g0],by simp [g1],by simp [g2],by simp [g7],h2⟩ (by decide) (fun _ _ _ _ h=>by simpa using h) (fun _ _ _ _ h=>by simpa using h) ?_ ?_
  rotate_left
  ·rintro ρ w4 ⟨g0,g1,g2,g7,h4⟩
   rw [upto_all] at h4
   simp only [thenK_nrm]
   exact ⟨g0,g1,g2,g7,h4⟩
  rintro k ρ w4 hk hc hlm ⟨g0,g1,g2,g7,h4⟩
  have ho4:=h4.obj
  unfold oO at ho4
  have hO4:=h4.drop.own
  have hk2:(k:Int) < (tabN N (upto k (fun _=>Inf) 0)).length:=by rw [tabN_len]; omega
  simp (disch:=omega) [g7,cell_blk ho4,hc,hlm,hO4.idx]
  refine (h4.by Imp.sw).store1 (Lcl.obj.star .emp) nE_len nE_one (k:=k) (by rw [tabN_len]; exact hk) (x:=Inf) rfl fun w5 h5=>?_
  rw [tabN_set hk,upto_succ k (fun _=>Inf) 0] at h5
  simp [g0,g1,g2,g7,hc,hlm]
  exact h5.by Imp.sw
 clear g0 g1 g2 g7 h2
 rintro ρ w2 ⟨g0,g1,g2,g7,h2⟩
 -- what is left
 have hLO:Lcl (Star (ObjA ob (oO ov)) (Star (OwnA ov 3 1 nE (tabN N fun _=>Inf)) Emp)):=Lcl.obj.star (Lcl.own.star .emp)
 obtain ⟨nl,hnl⟩:∃nl:Nat→Nat,nl=fun j=>match U[j]? with | some u=>u.needs.length | none=>0:=⟨_,rfl⟩
 refine seq_cut (fun ρ w'=>ρ 0=.pointer (some ⟨b,0,none⟩)∧ρ 1=sv∧ρ 2=wv∧ρ 7=.pointer (some ⟨ob,0,none⟩)∧At w [] (Star (OwnA (ρ 9) 3 1 nE (tabN M (upto 0 nl 0))) (Star (ObjA ob (oO ov)) (Star (OwnA ov 3 1 nE (tabN N fun _=>Inf)) Emp))) w') ?_ ?_
 ·have hR2:=hR.kp h2.kp
  simp [g0,cell_blk hR2.obj,hR2.un.len,hrl]
  refine gd_mk (by omega) ?_
  have h3:=h2.made (E:=3) (enc:=nE) (x:=0) (z:=[.int .i64 0]) (n:=M) hLO rfl nE_len (by unfold maxLen; omega)
  rw [upto_zero M 0 nl] at h3
  simp [g0,g1,g2,g7]
  exact h3
 clear g0 g1 g2 g7 h2
 rintro ρ w2 ⟨g0,g1,g2,g7,h2⟩
 obtain ⟨lv,hlv⟩:∃lv,lv=ρ 9:=⟨_,rfl⟩
 rw [←hlv] at h2
 refine seq_cut (fun ρ w'=>ρ 0=.pointer (some ⟨b,0,none⟩)∧ρ 1=sv∧ρ 2=wv∧ρ 7=.pointer (some ⟨ob,0,none⟩)∧ρ 9=lv∧At w [] (Star (OwnA lv 3 1 nE (tabN M nl)) (Star (ObjA ob (oO ov)) (Star (OwnA ov 3 1 nE (tabN N fun _=>Inf)) Emp))) w') ?_ ?_
 ·have hR2:=hR.kp h2.kp
  simp [g0,cell_blk hR2.obj,hR2.un.len,hrl]
  refine range_loop (n:=M) (by omega) (fun k ρ w'=>ρ 0=.pointer (some ⟨b,0,none⟩)∧ρ 1=sv∧ρ 2=wv∧ρ 7=.pointer (some ⟨ob,0,none⟩)∧ρ 9=lv∧ρ 46=uv∧At w [] (Star (OwnA lv 3 1 nE (tabN M (upto k nl 0))) (Star (ObjA ob (oO ov)) (Star (OwnA ov 3 1 nE (tabN N fun _=>Inf)) Emp))) w') (by simp) (by simp)
   ⟨by simp [g0],by simp [g1],by simp [g2],by simp [g7],by simp [hlv],by simp,h2⟩ (by decide) (fun _ _ _ _ h=>by simpa using h) (fun _ _ _ _ h=>by simpa using h) ?_ ?_
  rotate_left
  ·rintro ρ w4 ⟨g0,g1,g2,g7,g9,g46,h4⟩
   rw [upto_all] at h4
   simp only [thenK_nrm]
   exact ⟨g0,g1,g2,g7,g9,h4⟩
  rintro k ρ w4 hk hc hlm ⟨g0,g1,g2,g7,g9,g46,h4⟩
  have hR4:=hR.kp h4.kp
  obtain ⟨r,hr⟩:∃r,rs[k]? = some r:=⟨_,List.getElem?_eq_getElem (by omega)⟩
  have hrm:=List.mem_of_getElem? hr
  have hru:U[k]? = some r.u:=by rw [←hR.eu,List.getElem?_map,hr]; rfl
  have ec:=hR4.un.cells ruE_len hr
  simp only [ruE] at ec
  have hrk:(k:Int) < rs.length:=by omega
  have hnk:nl k=r.u.needs.length:=by rw [hnl]; simp only [hru]
  obtain ⟨eb,heb⟩:∃eb,eb=w4.heap.size:=⟨_,rfl⟩
  have hL4:Lcl (Star (OwnA lv 3 1 nE (tabN M (upto k nl 0))) (Star (ObjA ob (oO ov)) (Star (OwnA ov 3 1 nE (tabN N fun _=>Inf)) Emp))):=Lcl.own.star hLO
  have h5:At w [] (Star (ObjA eb (.cells #[.int .i64 0,.int .i64 0,.int .i64 0,.int .i64 0,.slice none 0 0] 137 (0,0))) (Star (OwnA lv 3 1 nE (tabN M (upto k nl 0))) (Star (ObjA ob (oO ov)) (Star (OwnA ov 3 1 nE (tabN N fun _=>Inf)) Emp)))) (w4.alloc (.cells #[.int .i64 0,.int .i64 0,.int .i64 0,.int .i64 0,.slice none 0 0] 137 (0,0))):=by rw [heb]; exact h4.alloc _ hL4
  simp (disch:=omega) [g46,hc,hlm,hR4.un.idx,ec,←heb]
  refine h5.st hL4 (by simp) (by simp [r.nv.2]) fun w6 h6=>?_
  have he6:=h6.obj
  simp at he6
  rw [heb] at he6
  have h7:=h6.drop
  have hO7:=h7.own
  have hn7:=(hR.kp h7.kp).needs r hrm
  have hk2:(k:Int) < (tabN M (upto k nl 0)).length:=by rw [tabN_len]; omega
  simp (disch:=omega) [g9,hc,cell_blk he6,hn7.len,hO7.idx]
  refine h7.store1 hLO nE_len nE_one (k:=k) (by rw [tabN_len]; exact hk) (x:=nl k) (by rw [hnk]; rfl) fun w8 h8=>?_
  rw [tabN_set hk,upto_succ k nl 0] at h8
  simp [g0,g1,g2,g7,g9,g46,hc,hlm]
  exact h8
 clear g0 g1 g2 g7 h2 hlv
 rintro ρ w2 ⟨g0,g1,g2,g7,g9,h2⟩
 -- the heap,and the function
 obtain ⟨qb,hqb⟩:∃qb,qb=w2.heap.size:=⟨_,rfl⟩
 obtain ⟨cl,hcl⟩:∃cl,cl=Value.func (.func 129) #[] #[.pointer (some ⟨ob,0,none⟩),.pointer (some ⟨qb,0,none⟩)]:=⟨_,rfl⟩
 obtain ⟨BL,hBL⟩:∃BL,BL=Star (OwnA lv 3 1 nE (tabN M nl)) Emp:=⟨_,rfl⟩
 have hLBL:Lcl BL:=by rw [hBL]; exact Lcl.own.star .emp
 have hV0:VI ob qb N (fun _=>Inf) [] w [] BL (w2.alloc (.cells #[.slice none 0 0] 217 (0,0))):=by
  have h3:At w [] (Star (ObjA qb (qO (.slice none 0 0))) (Star (OwnA lv 3 1 nE (tabN M nl)) (Star (ObjA ob (oO ov)) (Star (OwnA ov 3 1 nE (tabN N fun _=>Inf)) Emp)))) (w2.alloc (.cells #[.slice none 0 0] 217 (0,0))):=by rw [hqb]; exact h2.alloc _ (Lcl.own.star hLO)
  have h4:=At.nil (E:=221) (sz:=2) (enc:=enE) (Lcl.obj.star (Lcl.own.star hLO)) h3
  refine ⟨ov,.slice none 0 0,?_⟩
  rw [hBL]
  exact h4.by (Imp.sw.trans (Imp.un (Imp.un Imp.bk3)))
 refine seq_cut (fun ρ w'=>ρ 0=.pointer (some ⟨b,0,none⟩)∧ρ 1=sv∧ρ 2=wv∧ρ 7=.pointer (some ⟨ob,0,none⟩)∧ρ 9=lv∧ρ 12=.pointer (some ⟨qb,0,none⟩)∧VI ob qb N (fun _=>Inf) [] w [] BL w') ?_ ?_
 ·simp [g0,g1,g2,g7,g9,←hqb]
  exact hV0
 clear g0 g1 g2 g7 g9 h2 hV0 hqb
 rintro ρ w2 ⟨g0,g1,g2,g7,g9,g12,hV⟩
 refine seq_cut (fun ρ w'=>ρ 0=.pointer (some ⟨b,0,none⟩)∧ρ 1=sv∧ρ 2=wv∧ρ 7=.pointer (some ⟨ob,0,none⟩)∧ρ 9=lv∧ρ 12=.pointer (some ⟨qb,0,none⟩)∧ρ 13=cl∧w'=w2) ?_ ?_
 ·simp [g0,g1,g2,g7,g9,g12,hcl]
 clear g0 g1 g2 g7 g9 g12
 rintro ρ w2 ⟨g0,g1,g2,g7,g9,g12,g13,rfl⟩
 -- the facts of the state
 have hD0:Dj U ok (stN vars s vars.length) [] (fun _=>Inf) [] (fun _=>false) 0 (frF U):=Dj.init fun i u hi hn=>frF_mem.2 ⟨u,hi,hn⟩
 refine seq_cut (fun ρ w'=>ρ 0=.pointer (some ⟨b,0,none⟩)∧ρ 1=sv∧ρ 2=wv∧ρ 7=.pointer (some ⟨ob,0,none⟩)∧ρ 9=lv∧ρ 12=.pointer (some ⟨qb,0,none⟩)∧ρ 13=cl∧∃out l q,Dj U ok (stN vars s vars.length) (stN vars s vars.length) out q (fun _=>false) 0 (frF U)∧Hp l q∧l.length≤vars.length∧VI ob qb N out l w [] BL w') ?_ ?_
 ·have hs2:=hs.kp0 hV.kp
  simp [g1,hs2.len]
  refine range_loop (n:=s.length) (by omega) (fun k ρ w'=>ρ 0=.pointer (some ⟨b,0,none⟩)∧ρ 1=sv∧ρ 2=wv∧ρ 7=.pointer (some ⟨ob,0,none⟩)∧ρ 9=lv∧ρ 12=.pointer (some ⟨qb,0,none⟩)∧ρ 13=cl∧ρ 61=sv∧(∃out l q,Dj U ok (stN vars s vars.length) (stN vars s k) out q (fun _=>false) 0 (frF U)∧Hp l q∧l.length≤k∧VI ob qb N out l w [] BL w')) (by simp) (by simp)
   ⟨by simp [g0],by simp [g1],by simp [g2],by simp [g7],by simp [g9],by simp [g12],by simp [g13],by simp,⟨_,_,_,hD0,Hp.nil,by simp,hV⟩⟩ (by decide) (fun _ _ _ _ h=>by simpa using h) (fun _ _ _ _ h=>by simpa using h) ?_ ?_
  rotate_left
  ·rintro ρ w4 ⟨g0,g1,g2,g7,g9,g12,g13,g61,out,l,q,hD,hH,hll,h4⟩
   rw [hl] at hD hll
   simp only [thenK_nrm]
   exact ⟨g0,g1,g2,g7,g9,g12,g13,out,l,q,hD,hH,hll,h4⟩
  rintro k ρ w4 hk hc hlm ⟨g0,g1,g2,g7,g9,g12,g13,g61,out,l,q,hD,hH,hll,h4⟩
  have hkp4:=h4.kp
  have hs4:=hs.kp0 hkp4
  have hR4:=hR.kp hkp4
  obtain ⟨x,hx⟩:∃x,s[k]? = some x:=⟨_,List.getElem?_eq_getElem hk⟩
  have hxd:s.getD k 0=x:=by simp [List.getD,hx]
  have hxr:=hsr k (by omega)
  rw [hxd] at hxr
  have hnum:=numF_lt (vars:=vars) (f:=(k,x)) (by show k < vars.length; omega) hxr
  rw [←hNe] at hnum
  obtain ⟨f,hf⟩:∃f,f=psum vars k+x:=⟨_,rfl⟩
  have hfN:f < N:=by rw [hf]; exact hnum
  have ef:((psum vars k:Nat):Int)+(x:Nat)=(f:Int):=by rw [hf]; simp
  have hfi:(k:Int) < (firsts vars vars.length).length:=by simp [firsts]; omega
  have efc:=nE_cell hR4.first (firsts_at (vars:=vars) (show k < vars.length by omega))
  simp (disch:=omega) [g0,g13,g61,hc,hlm,hs4.idx,nE_cell hs4 hx,cell_blk hR4.obj,hR4.first.idx,efc,ef,wrap_i64,hcl]
  refine cl_of (reach_spec ob qb N out l f 0 hLBL h4 hfN (by omega)) ?_
  rintro _ w5 h5
  have hfS:f ∈ stN vars s vars.length:=by
   unfold stN
   exact List.mem_map.2 ⟨k,List.mem_range.2 (by omega),by rw [hxd,hf]⟩
  have hst:stN vars s (k+1)=stN vars s k ++ [f]:=by rw [stN_succ,hxd,←hf]
  simp [g0,g1,g2,g7,g9,g12,g13,g61,hc,hlm,←hcl]
  rw [hst]
  by_cases hlt:0 < out f
  ·have e1:rcO out f 0=updN out f 0:=if_pos hlt
   have e2:rcL out l f 0=upL (l ++ [(0,f)]) l.length:=if_pos hlt
   rw [e1,e2] at h5
   exact ⟨_,_,_,(hD.reach hlt (.base hfS) (Nat.le_refl _)).start (by simp),hH.push _,by rw [upL_len]; simp; omega,h5⟩
  ·have e1:rcO out f 0=out:=if_neg hlt
   have e2:rcL out l f 0=l:=if_neg hlt
   rw [e1,e2] at h5
   exact ⟨_,_,_,hD.start (by omega),hH,by omega,h5⟩
 clear g0 g1 g2 g7 g9 g12 g13 hV hD0
 rintro ρ w2 ⟨g0,g1,g2,g7,g9,g12,g13,out,l,q,hD,hH,hll,hV⟩
 -- those that need nothing
 refine seq_cut (fun ρ w'=>ρ 0=.pointer (some ⟨b,0,none⟩)∧ρ 1=sv∧ρ 2=wv∧ρ 7=.pointer (some ⟨ob,0,none⟩)∧ρ 9=lv∧ρ 12=.pointer (some ⟨qb,0,none⟩)∧ρ 13=cl∧∃out l q,Dj U ok (stN vars s vars.length) (stN vars s vars.length) out q (fun _=>false) 0 []∧Hp l q∧l.length≤vars.length+M∧VI ob qb N out l w [] BL w') ?_ ?_
 ·have hR2:=hR.kp hV.kp
  simp [g0,cell_blk hR2.obj,hR2.free.len]
  have hfl:=frF_len U
  refine range_loop (n:=(frF U).length) (by omega) (fun k ρ w'=>ρ 0=.pointer (some ⟨b,0,none⟩)∧ρ 1=sv∧ρ 2=wv∧ρ 7=.pointer (some ⟨ob,0,none⟩)∧ρ 9=lv∧ρ 12=.pointer (some ⟨qb,0,none⟩)∧ρ 13=cl∧ρ 83=fr∧(∃out l q,Dj U ok (stN vars s vars.length) (stN vars s vars.length) out q (fun _=>false) 0 ((frF U).drop k)∧Hp l q∧l.length≤vars.length+k∧VI ob qb N out l w [] BL w')) (by simp) (by simp)
   ⟨by simp [g0],by simp [g1],by simp [g2],by simp [g7],by simp [g9],by simp [g12],by simp [g13],by simp,⟨_,_,_,hD,hH,hll,hV⟩⟩ (by decide) (fun _ _ _ _ h=>by simpa using h) (fun _ _ _ _ h=>by simpa using h) ?_ ?_
  rotate_left
  ·rintro ρ w4 ⟨g0,g1,g2,g7,g9,g12,g13,g83,out,l,q,hD,hH,hll,h4⟩
   rw [List.drop_of_length_le (Nat.le_refl _)] at hD
   simp only [thenK_nrm]
   exact ⟨g0,g1,g2,g7,g9,g12,g13,out,l,q,hD,hH,by omega,h4⟩
  clear g0 g1 g2 g7 g9 g12 g13 hV hD hH hll hR2
  rintro k ρ w4 hk hc hlm ⟨g0,g1,g2,g7,g9,g12,g13,g83,out,l,q,hD,hH,hll,h4⟩
  have hkp4:=h4.kp
  have hR4:=hR.kp hkp4
  have hw4:=hw.kp hkp4
  obtain ⟨i,hi⟩:∃i,(frF U)[k]? = some i:=⟨_,List.getElem?_eq_getElem hk⟩
  have him:=List.mem_of_getElem? hi
  obtain ⟨u,hui,hun⟩:=frF_mem.1 him
  have hiM:i < M:=by rw [hMe]; exact (List.getElem?_eq_some_iff.1 hui).1
  obtain ⟨r,hr⟩:∃r,rs[i]? = some r:=⟨_,List.getElem?_eq_getElem (by omega)⟩
  have hru:r.u=u:=by
   have e1:(rs.map (·.u))[i]? = some r.u:=by rw [List.getElem?_map,hr]; rfl
   rw [hR.eu,hui] at e1
   exact (Option.some.inj e1).symm
  have hum:=List.mem_of_getElem? hui
  have huo:=hU.op u hum
  have huc:=hU.cost u hum
  have hir:(i:Int) < rs.length:=by omega
  have c0:=hR4.un.fld ruE_len hr (o:=0) (u:=.int .i64 (u.op:Nat)) (by rw [←hru]; rfl)
  have c2:=hR4.un.fld ruE_len hr (o:=2) (u:=.int .i64 (u.cost:Nat)) (by rw [←hru]; rfl)
  have c3:=hR4.un.fld ruE_len hr (o:=3) (u:=.int .i64 (u.makes:Nat)) (by rw [←hru]; rfl)
  have hdr:(frF U).drop k=i :: (frF U).drop (k+1):=by rw [List.drop_eq_getElem_cons hk,(List.getElem?_eq_some_iff.1 hi).2]
  rw [hdr] at hD
  have hg0:gr out u.needs=0:=by rw [hun]; rfl
  simp (disch:=omega) [g0,g2,g83,hc,hlm,hR4.free.idx,nE_cell hR4.free hi,cell_blk hR4.obj,hR4.un.idx,c0]
  refine hw4.look (i:=u.op) (by omega) ?_
  cases hok:ok u.op with
  | false =>
   simp [g0,g1,g2,g7,g9,g12,g13,g83,hc,hlm]
   refine ⟨out,l,q,hD.look fun v hv hvk=>?_,hH,by omega,h4⟩
   rw [hui] at hv
   cases hv
   rw [hok] at hvk; cases hvk
  | true =>
   have h5:=h4.kp0 hLBL ((Kp.refl [] w4).drew)
   simp (disch:=omega) [g0,g13,cell_blk hR4.obj,hR4.un.idx,c2,c3,hcl]
   refine cl_of (reach_spec ob qb N out l u.makes u.cost hLBL h5 (hU.made u hum) (by omega)) ?_
   rintro _ w6 h6
   simp [g0,g1,g2,g7,g9,g12,g13,g83,hc,hlm,←hcl]
   have hdn:=hD.der_now hum hok (by rw [hun]; simp)
   rw [hg0,Nat.zero_add] at hdn
   by_cases hlt:u.cost < out u.makes
   ·have e1:rcO out u.makes u.cost=updN out u.makes u.cost:=if_pos hlt
    have e2:rcL out l u.makes u.cost=upL (l ++ [(u.cost,u.makes)]) l.length:=if_pos hlt
    rw [e1,e2] at h6
    refine ⟨_,_,_,(hD.reach hlt hdn (Nat.zero_le _)).look fun v hv _ _=>?_,hH.push _,by rw [upL_len]; simp; omega,h6⟩
    rw [hui] at hv
    cases hv
    simp [hun,gr]
   ·have e1:rcO out u.makes u.cost=out:=if_neg hlt
    have e2:rcL out l u.makes u.cost=l:=if_neg hlt
    rw [e1,e2] at h6
    refine ⟨_,_,_,hD.look fun v hv _ _=>?_,hH,by omega,h6⟩
    rw [hui] at hv
    cases hv
    rw [hg0]; omega
 clear g0 g1 g2 g7 g9 g12 g13 hV hD hH hll
 rintro ρ w2 ⟨g0,g1,g2,g7,g9,g12,g13,out,l,q,hD,hH,hll,hV⟩
 have hSlt:∀x ∈ stN vars s vars.length,x < N:=fun x hx=>by
  unfold stN at hx
  obtain ⟨v,hv,rfl⟩:=List.mem_map.1 hx
  have hv:=List.mem_range.1 hv
  have:=numF_lt (vars:=vars) (f:=(v,s.getD v 0)) hv (hsr v hv)
  rw [←hNe] at this
  exact this
 have hAlt:∀u ∈ allow ok U,u.makes < N:=fun u hu=>hU.made u (allow_mem.1 hu).1
 have hnl0:nl=opN U fun _=>false:=by
  rw [hnl]
  funext j
  unfold opN
  cases U[j]? with
  | none=>rfl
  | some u=>exact opens_none.symm
 refine seq_cut (fun ρ w'=>ρ 0=.pointer (some ⟨b,0,none⟩)∧ρ 2=wv∧ρ 7=.pointer (some ⟨ob,0,none⟩)∧ρ 9=lv∧ρ 12=.pointer (some ⟨qb,0,none⟩)∧ρ 13=cl∧VI ob qb N out l w [] (Star (OwnA (ρ 18) 4 1 bE (tabB N fun _=>false)) (Star (OwnA lv 3 1 nE (tabN M (opN U fun _=>false))) Emp)) w') ?_ ?_
 ·have hR2:=hR.kp hV.kp
  obtain ⟨ov2,sv2,h3⟩:=hV
  have h4:=h3.made (E:=4) (enc:=bE) (x:=false) (z:=[.bool false]) (n:=N) (Lcl.obj.star (Lcl.own.star (Lcl.obj.star (Lcl.own.star hLBL)))) rfl bE_len (by unfold maxLen; omega)
  have e:List.replicate N false=tabB N fun _=>false:=by
   apply List.ext_getElem
   ·simp [tabB]
   ·intro i h1 h2
    simp [tabB]
  rw [e] at h4
  simp [g0,cell_blk hR2.obj]
  refine gd_mk (by omega) ?_
  simp [g0,g2,g7,g9,g12,g13]
  have h5:=VI.inn h4
  rw [hBL,hnl0] at h5
  rw [←hNe]
  exact h5
 clear g0 g1 g2 g7 g9 g12 g13 hV
 rintro ρ w2 ⟨g0,g2,g7,g9,g12,g13,hV⟩
 obtain ⟨dv,hdv⟩:∃dv,dv=ρ 18:=⟨_,rfl⟩
 rw [←hdv] at hV
 -- the search
 refine seq_cut (fun ρ w'=>ρ 7=.pointer (some ⟨ob,0,none⟩)∧∃V,IsVal (allow ok U) (stN vars s vars.length) V∧VI ob qb N V [] w [] Emp w') ?_ ?_
 ·simp
  refine loop_inv (VwI U ok (stN vars s vars.length) vars N M ob qb b lv dv wv cl w) _
   ⟨out,l,q,_,0,rfl,hD,hH,by omega,g0,g2,g7,g9,g12,g13,hdv.symm,hV⟩ ?_
  clear g0 g2 g7 g9 g12 g13 hV hD hH hll hdv
  rintro n ρ w3 ⟨out,l,q,done,cur,rfl,hD,hH,hll,g0,g2,g7,g9,g12,g13,g18,hV⟩
  have hdl:=dones_le (done:=done) (N:=N)
  have hLf:∀done lf,Lcl (Star (OwnA dv 4 1 bE (tabB N done)) (Star (OwnA lv 3 1 nE (tabN M lf)) Emp)):=fun _ _=>Lcl.own.star (Lcl.own.star .emp)
  obtain ⟨ov3,sv3,h3⟩:=hV
  have hq3:=rd_q h3.obj
  have hbig:dones done N * M≤768 * 160:=Nat.mul_le_mul (by omega) (by omega)
  simp [g12,hq3]
  refine cl_of (len_spec sv3 l h3.drop.own.vw) ?_
  rintro _ w4 ⟨rfl,k4⟩
  have h4:=h3.kp0 (Lcl.obj.star (Lcl.own.star (Lcl.obj.star (Lcl.own.star (hLf _ _))))) k4
  cases l with
  | nil =>
   have hq0:q=[]:=List.Perm.nil_eq hH.perm |>.symm
   subst hq0
   simp [g7]
   exact ⟨out,hD.fin,ov3,sv3,h4.by (Imp.un (Imp.un (Imp.un (Imp.un (Imp.dr.trans Imp.dr)))))⟩
  | cons x l' =>
  obtain ⟨hH1,hxq,hxm⟩:=hH.pop
  have hpos:(0:Int) < (l'.length:Int)+1:=by omega
  simp [g12]
  refine cl_of (hPop_spec qb l' x (Lcl.obj.star (Lcl.own.star (hLf _ _))) ⟨sv3,h4⟩ (by simp at hll; omega)) ?_
  rintro _ w5 ⟨rfl,sv5,h5⟩
  obtain ⟨l1,hl1⟩:∃l1,l1=downL (topL (x :: l')) 0:=⟨_,rfl⟩
  have hl1l:l1.length=l'.length:=by rw [hl1,downL_len _ 0 _ (Nat.le_refl _),topL_len]; simp
  rw [←hl1] at h5 hH1
  obtain ⟨v,f⟩:=x
  have hxe:=hD.ent _ hxq
  have hfN:f < N:=der_lt hAlt hSlt (hD.der f (Nat.lt_of_le_of_lt hxe.1 hxe.2))
  have hvI:v < 1125899906842624:=hxe.2
  obtain ⟨eb,heb⟩:∃eb,eb=w5.heap.size:=⟨_,rfl⟩
  obtain ⟨eO,heO⟩:∃eO:Obj,eO=.cells #[.int .i64 (v:Nat),.int .i64 (f:Nat)] 221 (0,0):=⟨_,rfl⟩
  have hLq:∀done lf,Lcl (Star (ObjA qb (qO sv5)) (Star (OwnA sv5 221 2 enE l1) (Star (ObjA ob (oO ov3)) (Star (OwnA ov3 3 1 nE (tabN N out)) (Star (OwnA dv 4 1 bE (tabB N done)) (Star (OwnA lv 3 1 nE (tabN M lf)) Emp)))))):=fun _ _=>Lcl.obj.star (Lcl.own.star (Lcl.obj.star (Lcl.own.star (hLf _ _))))
  have h6:At w [] (Star (ObjA eb (.cells #[.int .i64 0,.int .i64 0] 221 (0,0))) (Star (ObjA qb (qO sv5)) (Star (OwnA sv5 221 2 enE l1) (Star (ObjA ob (oO ov3)) (Star (OwnA ov3 3 1 nE (tabN N out)) (Star (OwnA dv 4 1 bE (tabB N done)) (Star (OwnA lv 3 1 nE (tabN M (opN U done))) Emp))))))) (w5.alloc (.cells #[.int .i64 0,.int .i64 0] 221 (0,0))):=by rw [heb]; exact h5.alloc _ (hLq _ _)
  simp [enV,←heb]
  refine h6.st (hLq _ _) (by simp) (by simp) fun w7 h7=>?_
  have hV7:VI ob qb N out l1 w [] (Star (ObjA eb eO) (Star (OwnA dv 4 1 bE (tabB N done)) (Star (OwnA lv 3 1 nE (tabN M (opN U done))) Emp))) w7:=by
   refine VI.inn (ov:=ov3) (sv:=sv5) ?_
   rw [heO]
   simpa using h7
  clear h3 hq3 h4 h5 h6 h7 k4 hLq
  have rdE:∀{out:Nat→Nat} {l:List En} {B:Asr} {w'},VI ob qb N out l w [] (Star (ObjA eb eO) B) w'→w'.heap[eb]? = some (.cells #[.int .i64 (v:Nat),.int .i64 (f:Nat)] 221 (0,0)):=fun h=>by
   have:=h.frm.obj
   rw [heO] at this
   exact this
  have he7:=rdE hV7
  have hdO:=hV7.frm.drop.own
  have hf2:(f:Int) < (tabB N done).length:=by rw [tabB_len]; omega
  have cd7:w7.cell? ⟨dv.blk,f,none⟩=some (.bool (done f)):=by
   have:=hdO.cell bE_len (tabB_at (g:=done) hfN) (o:=0) (by omega)
   simpa [bE] using this
  have hll2:l'.length+1≤vars.length+M+dones done N * M:=by simpa using hll
  cases hdf:done f with
  | true =>
   rw [hdf] at cd7
   rw [heb] at he7
   simp (disch:=omega) [g18,cell_blk he7,hdO.idx,cd7]
   exact ⟨(N - dones done N) * (M+1)+l1.length,by rw [hl1l]; omega,out,l1,q.erase (v,f),done,cur,rfl,hD.skip (x:=(v,f)) hdf,hH1,by omega,g0,g2,g7,g9,g12,g13,g18,hV7.by Imp.dr⟩
  | false =>
   rw [hdf] at cd7
   have he7':=he7
   rw [heb] at he7'
   simp (disch:=omega) [g18,cell_blk he7',hdO.idx,cd7]
   refine hV7.store2 Lcl.obj (Lcl.own.star .emp) bE_len bE_one (k:=f) (by rw [tabB_len]; exact hfN) (x:=true) rfl fun w8 h8=>?_
   rw [tabB_set hfN] at h8
   obtain ⟨hD8,hof⟩:=hD.pop hxq hxm hdf (pend:=nbF U f) (fun i u hi hf=>nbF_mem.2 ⟨u,hi,hf⟩)
   have hdu:=dones_upd hfN hdf
   obtain ⟨done',hdone'⟩:∃done',done'=updN done f true:=⟨_,rfl⟩
   rw [←hdone'] at h8 hD8 hdu
   rw [lfK_start hU.nod hdf,←hdone'] at h8
   have hR8:=hR.kp h8.kp
   obtain ⟨p,hp⟩:∃p,ps[f]? = some p:=⟨_,List.getElem?_eq_getElem (by
    have:=congrArg List.length hR.ep
    simp at this
    omega)⟩
   have hp2:p.2=nbF U f:=by
    have e1:(ps.map (·.2))[f]? = some p.2:=by rw [List.getElem?_map,hp]; rfl
    rw [hR.ep,←hNe] at e1
    simp [hfN] at e1
    exact e1.symm
   have hpl:(f:Int) < ps.length:=by have:=(List.getElem?_eq_some_iff.1 hp).1; omega
   have ei:w8.cell? (nd.adr.add f)=some p.1.1:=by simpa using hR8.needed.at_ sv1_len hp (o:=0) (u:=p.1.1) rfl
   have hrow:=hR8.rows p (List.mem_of_getElem? hp)
   rw [hp2] at hrow
   have hnl2:=nbF_len U f
   have he8:=rdE h8
   rw [heb] at he8
   simp (disch:=omega) [g0,cell_blk hR8.obj,cell_blk he8,hR8.needed.idx,ei,hrow.len]
   have h9:=h8.kp0 (Lcl.obj.star (hLf _ _)) ((Kp.refl [] w8).drew)
   obtain ⟨S,hS⟩:∃S,S=stN vars s vars.length:=⟨_,rfl⟩
   rw [←hS] at hD8
   obtain ⟨c0,hc0⟩:∃c0,c0=l'.length:=⟨_,rfl⟩
   obtain ⟨q1,hq1⟩:∃q1,q1=q.erase (v,f):=⟨_,rfl⟩
   rw [←hq1] at hD8 hH1
   have hofv:out f=v:=hof
   refine range_loop (n:=(nbF U f).length) (by omega) (fun k ρ w'=>ρ 0=.pointer (some ⟨b,0,none⟩)∧ρ 2=wv∧ρ 7=.pointer (some ⟨ob,0,none⟩)∧ρ 9=lv∧ρ 12=.pointer (some ⟨qb,0,none⟩)∧ρ 13=cl∧ρ 18=dv∧ρ 19=.pointer (some ⟨eb,0,none⟩)∧ρ 153=p.1.1 ∧
     (∃out l q,Dj U ok S S out q done' v ((nbF U f).drop k)∧Hp l q∧out f=v∧l.length≤c0+k∧VI ob qb N out l w [] (Star (ObjA eb eO) (Star (OwnA dv 4 1 bE (tabB N done')) (Star (OwnA lv 3 1 nE (tabN M (lfK U done' ((nbF U f).drop k)))) Emp))) w')) (by simp) (by simp)
    ⟨by simp [g0],by simp [g2],by simp [g7],by simp [g9],by simp [g12],by simp [g13],by simp [g18],by simp [heb],by simp,⟨out,l1,q1,hD8,hH1,hofv,by omega,h9⟩⟩ (by decide) (fun _ _ _ _ h=>by simpa using h) (fun _ _ _ _ h=>by simpa using h) ?_ ?_
   rotate_left
   ·rintro ρ w10 ⟨g0,g2,g7,g9,g12,g13,g18,g19,g153,out2,l2,q2,hD2,hH2,hof2,hl2,h10⟩
    rw [List.drop_of_length_le (Nat.le_refl _)] at hD2 h10
    rw [lfK_nil] at h10
    rw [hS] at hD2
    have hmul:(dones done N+1) * M=dones done N * M+M:=by rw [Nat.add_mul,Nat.one_mul]
    have hle:=dones_le (done:=done') (N:=N)
    obtain ⟨z,hz⟩:∃z,N - dones done N=z+1:=⟨N - dones done N - 1,by omega⟩
    have hz2:N - dones done' N=z:=by omega
    have hzm:(z+1) * (M+1)=z * (M+1)+(M+1):=by rw [Nat.add_mul,Nat.one_mul]
    simp
    refine ⟨(N - dones done' N) * (M+1)+l2.length,?_,out2,l2,q2,done',v,rfl,hD2,hH2,?_,g0,g2,g7,g9,g12,g13,g18,h10.by Imp.dr⟩
    ·rw [hz,hz2,hzm]
     first | omega | (simp; omega)
    ·rw [hdu,hmul]; omega
   clear g0 g2 g7 g9 g12 g13 g18 h8 h9 hR8 hrow he8 ei hV7 he7 he7' hdO cd7
   rintro k ρ w10 hk hc hlm ⟨g0,g2,g7,g9,g12,g13,g18,g19,g153,out2,l2,q2,hD2,hH2,hof2,hl2,h10⟩
   obtain ⟨i,hi⟩:∃i,(nbF U f)[k]? = some i:=⟨_,List.getElem?_eq_getElem hk⟩
   have him:=List.mem_of_getElem? hi
   obtain ⟨u,hui,huf⟩:=nbF_mem.1 him
   have hiM:i < M:=by rw [hMe]; exact (List.getElem?_eq_some_iff.1 hui).1
   obtain ⟨r,hr⟩:∃r,rs[i]? = some r:=⟨_,List.getElem?_eq_getElem (by omega)⟩
   have hru:r.u=u:=by
    have e1:(rs.map (·.u))[i]? = some r.u:=by rw [List.getElem?_map,hr]; rfl
    rw [hR.eu,hui] at e1
    exact (Option.some.inj e1).symm
   have hum:=List.mem_of_getElem? hui
   have huo:=hU.op u hum
   have huc:=hU.cost u hum
   have hir:(i:Int) < rs.length:=by omega
   obtain ⟨rest,hrest⟩:∃rest,rest=(nbF U f).drop (k+1):=⟨_,rfl⟩
   have hdr:(nbF U f).drop k=i :: rest:=by rw [List.drop_eq_getElem_cons hk,(List.getElem?_eq_some_iff.1 hi).2,hrest]
   have hir2:i ∉ rest:=by
    have h1:=(nbF_nodup U f).sublist (List.drop_sublist k (nbF U f))
    rw [hdr] at h1
    exact (List.nodup_cons.1 h1).1
   rw [hdr] at hD2 h10
   rw [←hrest]
   have hLf3:∀lf,Lcl (Star (ObjA eb eO) (Star (OwnA dv 4 1 bE (tabB N done')) (Star (OwnA lv 3 1 nE (tabN M lf)) Emp))):=fun _=>Lcl.obj.star (hLf _ _)
   have hkp10:=h10.kp
   have hR10:=hR.kp hkp10
   have hrow10:=hR10.rows p (List.mem_of_getElem? hp)
   rw [hp2] at hrow10
   refine seq_cut (fun ρ w'=>ρ 0=.pointer (some ⟨b,0,none⟩)∧ρ 2=wv∧ρ 7=.pointer (some ⟨ob,0,none⟩)∧ρ 9=lv∧ρ 12=.pointer (some ⟨qb,0,none⟩)∧ρ 13=cl∧ρ 18=dv∧ρ 19=.pointer (some ⟨eb,0,none⟩)∧ρ 153=p.1.1∧ρ 154=.int .i64 ((nbF U f).length:Nat)∧ρ 155=.int .i64 (k:Nat)∧ρ 22=.int .i64 (i:Nat)∧w'=w10) ?_ ?_
   ·simp (disch:=omega) [g0,g2,g7,g9,g12,g13,g18,g19,g153,hc,hlm,hrow10.idx,nE_cell hrow10 hi]
   clear g0 g2 g7 g9 g12 g13 g18 g19 g153 hc hlm
   rintro ρ w10 ⟨g0,g2,g7,g9,g12,g13,g18,g19,g153,g154,g155,g22,rfl⟩
   -- one less is left
   refine seq_cut (fun ρ w'=>ρ 0=.pointer (some ⟨b,0,none⟩)∧ρ 2=wv∧ρ 7=.pointer (some ⟨ob,0,none⟩)∧ρ 9=lv∧ρ 12=.pointer (some ⟨qb,0,none⟩)∧ρ 13=cl∧ρ 18=dv∧ρ 19=.pointer (some ⟨eb,0,none⟩)∧ρ 153=p.1.1∧ρ 154=.int .i64 ((nbF U f).length:Nat)∧ρ 155=.int .i64 (k:Nat)∧ρ 22=.int .i64 (i:Nat) ∧
     VI ob qb N out2 l2 w [] (Star (ObjA eb eO) (Star (OwnA dv 4 1 bE (tabB N done')) (Star (OwnA lv 3 1 nE (tabN M (lfK U done' rest))) Emp))) w') ?_ ?_
   ·obtain ⟨ov4,sv4,h11⟩:=h10
    have h12:=h11.by Imp.fr7
    have hO:=h12.own
    have hi2:(i:Int) < (tabN M (lfK U done' (i :: rest))).length:=by rw [tabN_len]; omega
    have cv:w10.cell? ⟨lv.blk,i,none⟩=some (.int .i64 (opN U done' i+1:Nat)):=by
     have:=hO.cell nE_len (tabN_at (g:=lfK U done' (i :: rest)) hiM) (o:=0) (by omega)
     simpa [nE,lfK] using this
    obtain ⟨z,hz⟩:∃z,z=opN U done' i:=⟨_,rfl⟩
    have hzl:z≤100000:=by
     have h3:opN U done' i=opens done' u.needs:=by unfold opN; rw [hui]
     rw [hz,h3]
     have h1:=nodup_le u.needs N (hU.nod u hum) (hU.rng u hum)
     have h2:=List.countP_le_length (p:=fun n=>!done' n) (l:=u.needs)
     unfold opens
     omega
    rw [←hz] at cv
    have ez:((z+1:Nat):Int) - 1=(z:Int):=by omega
    simp only [Int.natCast_add,Int.natCast_one] at cv
    have ez2:(z:Int)+1 - 1=(z:Int):=by omega
    simp (disch:=omega) [g9,g22,hO.idx,cv,ez2,wrap_i64]
    refine h12.store1 (Lcl.obj.star (Lcl.own.star (Lcl.obj.star (Lcl.own.star (Lcl.obj.star (Lcl.own.star .emp)))))) nE_len nE_one (k:=i) (by rw [tabN_len]; exact hiM) (x:=z) rfl fun w12 h13=>?_
    rw [tabN_set hiM,hz,lfK_step hir2] at h13
    simp [g0,g2,g7,g9,g12,g13,g18,g19,g153,g154,g155,g22]
    exact ⟨ov4,sv4,h13.by Imp.bk7⟩
   clear g0 g2 g7 g9 g12 g13 g18 g19 g153 g154 g155 g22 h10 hkp10 hR10 hrow10
   rintro ρ w10 ⟨g0,g2,g7,g9,g12,g13,g18,g19,g153,g154,g155,g22,h10⟩
   have hkp10:=h10.kp
   have hR10:=hR.kp hkp10
   have hw10:=hw.kp hkp10
   have hO:=h10.frm.drop.drop.own
   have hi2:(i:Int) < (tabN M (lfK U done' rest)).length:=by rw [tabN_len]; omega
   obtain ⟨z,hz⟩:∃z,z=opN U done' i:=⟨_,rfl⟩
   have cv:w10.cell? ⟨lv.blk,i,none⟩=some (.int .i64 (z:Nat)):=by
    have:=hO.cell nE_len (tabN_at (g:=lfK U done' rest) hiM) (o:=0) (by omega)
    rw [hz]
    simpa [nE,lfK,hir2] using this
   have hzo:z=opens done' u.needs:=by rw [hz]; unfold opN; rw [hui]
   have c0':=hR10.un.fld ruE_len hr (o:=0) (u:=.int .i64 (u.op:Nat)) (by rw [←hru]; rfl)
   by_cases hz0:z=0
   case neg =>
    have hz1:((z:Int) == 0)=false:=by simp; omega
    simp (disch:=omega) [g9,g22,hO.idx,cv,hz1,g0,g2,g7,g12,g13,g18,g19,g153,g154,g155]
    refine ⟨out2,l2,q2,hD2.look fun v' hv' _ hn=>?_,hH2,hof2,by omega,h10⟩
    rw [hui] at hv'
    cases hv'
    exact absurd (hzo.trans (opens_zero.2 hn)) hz0
   case pos =>
   have hz1:((z:Int) == 0)=true:=by simp; omega
   have hall:∀n ∈ u.needs,done' n=true:=opens_zero.1 (by omega)
   simp (disch:=omega) [g9,g22,hO.idx,cv,hz1,g0,g2,cell_blk hR10.obj,hR10.un.idx,c0']
   refine hw10.look (i:=u.op) (by omega) ?_
   cases hok:ok u.op with
   | false =>
    simp [hz1,g9,g22,g0,g2,g7,g12,g13,g18,g19,g153,g154,g155]
    refine ⟨out2,l2,q2,hD2.look fun v' hv' hok' _=>?_,hH2,hof2,by omega,h10⟩
    rw [hui] at hv'
    cases hv'
    rw [hok] at hok'; cases hok'
   | true =>
    have h11:=h10.kp0 (hLf3 _) ((Kp.refl [] w10).drew)
    have c2:=hR10.un.fld ruE_len hr (o:=2) (u:=.int .i64 (u.cost:Nat)) (by rw [←hru]; rfl)
    have c3:=hR10.un.fld ruE_len hr (o:=3) (u:=.int .i64 (u.makes:Nat)) (by rw [←hru]; rfl)
    have he10:=rdE h10
    obtain ⟨x,hx⟩:∃x,x=v+u.cost:=⟨_,rfl⟩
    have ex:(v:Int)+(u.cost:Nat)=(x:Int):=by rw [hx]; simp
    simp (disch:=omega) [hz1,g0,g13,g22,g19,cell_blk hR10.obj,hR10.un.idx,c2,c3,cell_blk he10,ex,wrap_i64,hcl]
    refine cl_of (reach_spec ob qb N out2 l2 u.makes x (hLf3 _) h11 (hU.made u hum) (by simp at hll; omega)) ?_
    rintro _ w12 h12
    simp [g0,g2,g7,g9,g12,g13,g18,g19,g153,g154,g155,←hcl]
    have hgr:gr out2 u.needs=v:=hD2.gr_cur hall huf hof2
    have hdn:=hD2.der_now hum hok hall
    rw [hgr,←hx] at hdn
    by_cases hlt:x < out2 u.makes
    ·have e1:rcO out2 u.makes x=updN out2 u.makes x:=if_pos hlt
     have e2:rcL out2 l2 u.makes x=upL (l2 ++ [(x,u.makes)]) l2.length:=if_pos hlt
     rw [e1,e2] at h12
     have hnm:f≠u.makes:=fun e=>by
      rw [←e,hof2] at hlt; omega
     refine ⟨_,_,_,(hD2.reach hlt hdn (by omega)).look fun v' hv' _ _=>?_,hH2.push _,by rw [updN_ne hnm]; exact hof2,by rw [upL_len]; simp; omega,h12⟩
     rw [hui] at hv'
     cases hv'
     have hg2:gr (updN out2 u.makes x) u.needs=gr out2 u.needs:=gr_congr fun n hn=>updN_ne fun e=>by
      have h1:=hD2.dn n (hall n hn)
      rw [e] at h1
      omega
     rw [hg2,hgr]
     simp [hx]
    ·have e1:rcO out2 u.makes x=out2:=if_neg hlt
     have e2:rcL out2 l2 u.makes x=l2:=if_neg hlt
     rw [e1,e2] at h12
     refine ⟨_,_,_,hD2.look fun v' hv' _ _=>?_,hH2,hof2,by omega,h12⟩
     rw [hui] at hv'
     cases hv'
     rw [hgr]; omega
 clear g0 g2 g7 g9 g12 g13 hV
 rintro ρ w3 ⟨g7,V,hVal,ov3,sv3,h3⟩
 have ho:=h3.drop.drop.obj
 unfold oO at ho
 simp [g7,cell_blk ho]
 exact ⟨V,hVal,Nw.of (h3.by (Imp.dr.trans (Imp.dr.trans Imp.dr)))⟩
end Go.Proofs.YtolkjbmcindhjaaGreat
end
