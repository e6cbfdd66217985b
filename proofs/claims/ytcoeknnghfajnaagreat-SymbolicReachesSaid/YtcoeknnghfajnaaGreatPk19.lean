/-
  A part of the proof of this claim's statement (SyWH, SyWE, SyWF): plain theorems; no conditions beyond those each names.
-/
import Derived.Test.YtcoeknnghfajnaaGreatPk18
import Derived.Test.YtcoeknnghfajnaaGreatPk15
set_option maxRecDepth 100000
set_option linter.unusedSimpArgs false
set_option linter.unusedVariables false
set_option linter.unusedSectionVars false
section
namespace Go.Proofs.YtcoeknnghfajnaaGreat
open Go Go.W Go.Tk Go.Rx Go.Bd Go.Sy Go.Maps
theorem cp_region {tb:Nat} {T:Nt} {B:Asr} {w0 w:World} {F0:List Nat} {ρ:Env} {Q:Ex→Env→World→Prop} (hρ1:ρ 1=.pointer (some ⟨tb,0,none⟩)) (hB:Lcl B) (hr:Rds B fun w'=>NtR w' T) (hg:NtG T)
  (h0:At w0 F0 (Star (ObjA tb (ntO T)) B) w)
  (H:∀a b c ob w',At w0 F0 (Star (OwnA a 3 1 nE T.vars) (Star (OwnA b 3 1 nE T.init) (Star (OwnA c 85 2 fcE T.goal) (Star (ObjA ob (tcO a b c nlV)) (Star (ObjA tb (ntO T)) B))))) w'→Q .nrm (ρ.set 3 (.pointer (some ⟨ob,0,none⟩))) w'):wpL Tryz.prog (.anyR cpLos cpDeps [3]) Q ρ w:=by
 refine any_inv (CpT tb T B w0 F0 ρ) ?_ ?_ ?_
 ·refine ⟨fun t _=>rfl,by simp,by simp,by simp,by simp,by simp,by simp,by simp,?_⟩
  have h1:=h0.drew (Lcl.obj.star hB)
  unfold CpA cfl
  simp only [List.not_mem_nil,decide_false,Bool.false_eq_true,if_false]
  exact h1.by (Imp.em.trans (Imp.em.trans (Imp.em.trans Imp.em)))
 ·intro X i ρ' w' hi hn _ _ hd hu hT
  have hi:i < 12:=hi
  exact cp_all hρ1 hB hr hg i hi X ρ' w' hn hd hu hT
 ·intro l ρ' w' hl hT
  have hm:∀j,j < 12→cfl l j=true:=fun j hj=>cfl_yes (hl.mem_iff.2 (List.mem_range.2 hj))
  have h1:=hT.at_
  unfold CpA at h1
  simp only [hm 2 (by omega),hm 5 (by omega),hm 8 (by omega),hm 10 (by omega),hm 11 (by omega),if_true] at h1
  have h2:=h1.by Imp.fr4
  obtain ⟨p,hp⟩:∃p,ρ' 3=p:=⟨_,rfl⟩
  rw [hp] at h2
  obtain ⟨ob,rfl⟩:∃ob,p=.pointer (some ⟨ob,0,none⟩):=by
   obtain ⟨_,⟨Fa,Fb,⟨b,hb,_⟩,_⟩,_⟩:=h2.ex
   exact ⟨b,hb⟩
  have h3:At w0 F0 (Star (ObjA ob (tcO (ρ' 11) (ρ' 14) (ρ' 17) nlV)) _) w':=h2.imp fun F1 ⟨Fa,Fb,⟨b,hb,h1⟩,h2,hd,e⟩=>⟨F1,⟨Fa,Fb,by injection hb with hb; injection hb with hb; injection hb with hb; subst hb; exact h1,h2,hd,e⟩,fun x hx=>hx⟩
  have h4:=H _ _ _ _ _ (h3.by Imp.bk4)
  simp only [merge_cons,merge_nil,hp]
  exact h4
def skE (e:Nf):List Go.Tk.Fc × Nat × Nat:=(e.cnd,e.v,e.x)
def skO (o:No):ByteArray × Nat × List Go.Tk.Fc × List (List Go.Tk.Fc × Nat × Nat):=(o.name,o.cost,o.pre,o.effs.map skE)
structure Alk (T T':Nt):Prop where
 vars:T'.vars=T.vars
 init:T'.init=T.init
 goal:T'.goal=T.goal
 ops:T'.ops.map skO=T.ops.map skO
def cdE (e:Nf):Cell1 × List Go.Tk.Fc:=(e.wv,e.cnd)
def EfA (ev:Value) (es:List Nf) (X:Asr):Asr:=Star (OwnA ev 111 3 nfE es) (Star (VwsA fcE (es.map cdE)) X)
theorem EfA.lcl {ev:Value} {es:List Nf} {X:Asr} (hX:Lcl X):Lcl (EfA ev es X):=Lcl.own.star (Lcl.vws.star hX)
def OpA (ov:Value) (os:List No) (X:Asr):Asr:=Star (OwnA ov 66 4 noE os) (Star (VwsA fcE (os.map pvW)) (Star (VwsA nfE (os.map evW)) (Star (VwsA fcE (os.flatMap cdW)) X)))
theorem OpA.lcl {ov:Value} {os:List No} {X:Asr} (hX:Lcl X):Lcl (OpA ov os X):=Lcl.own.star (Lcl.vws.star (Lcl.vws.star (Lcl.vws.star hX)))
def CeI (rb ob opb:Nat) (ovv:Value) (n k:Nat) (oo:Obj) (X:Asr) (w:World) (F:List Nat) (o:No) (j:Nat) (ρ:Env) (w':World):Prop :=
 ρ 2=.pointer (some ⟨rb,0,none⟩)∧ρ 3=.pointer (some ⟨ob,0,none⟩)∧ρ 5=.pointer (some ⟨opb,0,none⟩)∧ρ 20=ovv∧ρ 21=.int .i64 (n:Nat)∧ρ 22=.int .i64 (k:Nat)∧ρ 31=o.ev.1∧∃es,es.map skE=(o.effs.take j).map skE∧At w F (EfA (ρ 6) es (Star (ObjA opb oo) X)) w'
theorem VwsA.join {α:Type} {enc:α→List Value} {ps qs:List (Cell1 × List α)} {X:Asr}:Imp (Star (VwsA enc ps) (Star (VwsA enc qs) X)) (Star (VwsA enc (qs ++ ps)) X):=by
 rintro w F ⟨Fa,Fx,⟨h1,h2,rfl⟩,⟨Fb,Fc,⟨h3,h4,rfl⟩,h5,hd,rfl⟩,hd2,rfl⟩
 refine ⟨_,⟨_,Fc,⟨fun p hp=>?_,fun x hx=>?_,rfl⟩,h5,fun x hx hc=>?_,rfl⟩,fun x hx=>?_⟩
 ·rcases List.mem_append.1 hp with h | h
  ·exact h3 p h
  ·exact h1 p h
 ·rw [List.flatMap_append] at hx
  rcases List.mem_append.1 hx with h | h
  ·exact h4 x h
  ·exact h2 x h
 ·rw [List.flatMap_append] at hx
  rcases List.mem_append.1 hx with h | h
  ·exact hd x h hc
  ·exact hd2 x h (by simp [hc])
 ·rw [List.flatMap_append] at hx
  simp only [List.mem_append] at hx ⊢
  rcases hx with (h | h) | h
  ·exact .inr (.inl h)
  ·exact .inl h
  ·exact .inr (.inr h)
theorem Imp.as {A B C:Asr}:Imp (Star A (Star B C)) (Star (Star A B) C):=by
 rintro w F ⟨Fa,Fx,h1,⟨Fb,Fc,h2,h3,hd,rfl⟩,hd2,rfl⟩
 refine ⟨_,⟨Fa ++ Fb,Fc,⟨Fa,Fb,h1,h2,fun x hx hb=>hd2 x hx (by simp [hb]),rfl⟩,h3,fun x hx hc=>?_,rfl⟩,fun x hx=>?_⟩
 ·rcases List.mem_append.1 hx with h | h
  ·exact hd2 x h (by simp [hc])
  ·exact hd x h hc
 ·simpa using hx
theorem OpA.fold {ev pc:Value} {E1 E2:Nat} {es:List Nf} {pre:List Go.Tk.Fc} {ce ps rs:List (Cell1 × List Go.Tk.Fc)} {qs:List (Cell1 × List Nf)} {Z:Asr} (h1:oneC pc=true) (h2:oneC ev=true) :
  Imp (Star (OwnA ev E1 3 nfE es) (Star (VwsA fcE ce) (Star (OwnA pc E2 2 fcE pre) (Star (VwsA fcE ps) (Star (VwsA nfE qs) (Star (VwsA fcE rs) Z)))))) (Star (VwsA fcE (ps ++ [(⟨pc,h1⟩,pre)])) (Star (VwsA nfE (qs ++ [(⟨ev,h2⟩,es)])) (Star (VwsA fcE (rs ++ ce)) Z))) :=
 Imp.trans (Imp.un (Imp.un (Imp.ow.trans (VwsA.add h1)))) (Imp.trans Imp.fr3 (Imp.un (Imp.trans (Imp.un Imp.sw) (Imp.trans (Imp.ow.trans (VwsA.add h2)) (Imp.un VwsA.join)))))
theorem rd_c3 {w:World} {q E:Nat} {a b c:Value} (h:w.heap[q]? = some (.cells #[a,b,c] E (0,0))):cellsAt w ⟨q,0,none⟩ 0 3=some [a,b,c]:=by
 simp [cellsAt,cell_blk h]
theorem rd_c4 {w:World} {q E:Nat} {a b c d:Value} (h:w.heap[q]? = some (.cells #[a,b,c,d] E (0,0))):cellsAt w ⟨q,0,none⟩ 0 4=some [a,b,c,d]:=by
 simp [cellsAt,cell_blk h]
theorem rd_tc {w:World} {q:Nat} {a b c d:Value} (h:w.heap[q]? = some (tcO a b c d)):cellsAt w ⟨q,0,none⟩ 0 4=some [a,b,c,d]:=by
 unfold tcO at h
 simp [cellsAt,cell_blk h]
def CoI (tb rb ob:Nat) (T:Nt) (a b c:Value) (X:Asr) (w:World) (F:List Nat) (k:Nat) (ρ:Env) (w':World):Prop :=
 ρ 2=.pointer (some ⟨rb,0,none⟩)∧ρ 3=.pointer (some ⟨ob,0,none⟩)∧ρ 20=T.ov.1∧∃ov os,os.map skO=(T.ops.take k).map skO∧At w F (OpA ov os (Star (ObjA ob (tcO a b c ov)) X)) w'
section
variable {w w1:World} {F:List Nat} {B:Asr}
set_option maxHeartbeats 4000000 in
theorem copied_spec (T:Nt) (hB:Lcl B) (h:At w F B w1) (hr:Rds B fun w'=>NtR w' T) (hg:NtG T) :
  Calls Tryz.prog 29 [ntV T].toArray w1 fun en w'=>∃v,en=.returned v∧∃T',v=ntV T'∧Alk T T'∧At w F (Star (TskA T') B) w':=by
 refine enter Tryz.func29 mixed low29 (Nat.le_of_ble_eq_true rfl) ?_
 simp only [L29]
 obtain ⟨tb,htb⟩:∃tb,tb=w1.heap.size:=⟨_,rfl⟩
 have h1:At w F (Star (ObjA tb (ntO T)) B) (w1.alloc (ntO T)):=by rw [htb]; exact h.alloc _ hB
 obtain ⟨w2,hw2⟩:∃w2,w2=w1.alloc (ntO T):=⟨_,rfl⟩
 rw [←hw2] at h1
 have hw2':w1.alloc (.cells #[T.vv.1,T.nv.1,T.gv.1,T.ov.1] 26 (0,0))=w2:=by rw [hw2]; rfl
 obtain ⟨rb,hrb⟩:∃rb,rb=w2.heap.size:=⟨_,rfl⟩
 have h2:At w F (Star (ObjA rb (tcO nlV nlV nlV nlV)) (Star (ObjA tb (ntO T)) B)) (w2.alloc (tcO nlV nlV nlV nlV)):=by rw [hrb]; exact h1.alloc _ (Lcl.obj.star hB)
 obtain ⟨w3,hw3⟩:∃w3,w3=w2.alloc (tcO nlV nlV nlV nlV):=⟨_,rfl⟩
 rw [←hw3] at h2
 have hw3':w2.alloc (.cells #[.slice none 0 0,.slice none 0 0,.slice none 0 0,.slice none 0 0] 26 (0,0))=w3:=by rw [hw3]; rfl
 have h3:=h2.by Imp.sw
 have hB3:Lcl (Star (ObjA rb (tcO nlV nlV nlV nlV)) B):=Lcl.obj.star hB
 have hr3:Rds (Star (ObjA rb (tcO nlV nlV nlV nlV)) B) fun w'=>NtR w' T:=Rds.star hr
 simp [ntV,←htb,hw2',←hrb,hw3']
 refine cp_region (T:=T) (tb:=tb) (by simp [htb]) hB3 hr3 hg h3 fun a b c ob w4 h4=>?_
 have hXB:Lcl (Star (OwnA a 3 1 nE T.vars) (Star (OwnA b 3 1 nE T.init) (Star (OwnA c 85 2 fcE T.goal) (Star (ObjA tb (ntO T)) (Star (ObjA rb (tcO nlV nlV nlV nlV)) B))))):=Lcl.own.star (Lcl.own.star (Lcl.own.star (Lcl.obj.star hB3)))
 have hXr:Rds (Star (OwnA a 3 1 nE T.vars) (Star (OwnA b 3 1 nE T.init) (Star (OwnA c 85 2 fcE T.goal) (Star (ObjA tb (ntO T)) (Star (ObjA rb (tcO nlV nlV nlV nlV)) B))))) fun w'=>NtR w' T:=Rds.star (Rds.star (Rds.star (Rds.star hr3)))
 have h5:=h4.by Imp.fr4
 have htO:=h5.drop.drop.drop.drop.obj
 unfold ntO at htO
 obtain ⟨X,hX⟩:∃X,X=Star (OwnA a 3 1 nE T.vars) (Star (OwnA b 3 1 nE T.init) (Star (OwnA c 85 2 fcE T.goal) (Star (ObjA tb (ntO T)) (Star (ObjA rb (tcO nlV nlV nlV nlV)) B)))):=⟨_,rfl⟩
 rw [←hX] at h5 hXB hXr
 have hT4:NtR w4 T:=by
  obtain ⟨_,hq,_⟩:=h5.drop.ex
  exact hXr _ _ hq
 have hLo:Lcl (Star (ObjA ob (tcO a b c nlV)) X):=Lcl.obj.star hXB
 have h6:=VwsA.nil (enc:=fcE) hLo h5
 have h7:=VwsA.nil (enc:=nfE) (Lcl.vws.star hLo) h6
 have h8:=VwsA.nil (enc:=fcE) (Lcl.vws.star (Lcl.vws.star hLo)) h7
 have h9:=h8.nil (E:=66) (sz:=4) (enc:=noE) (Lcl.vws.star (Lcl.vws.star (Lcl.vws.star hLo)))
 have h10:At w F (OpA nlV [] (Star (ObjA ob (tcO a b c nlV)) X)) w4:=h9
 have holen:=hg.olen
 simp [←htb,cell_blk htO,hT4.ops.len]
 refine range_loop (n:=T.ops.length) (by omega) (CoI tb rb ob T a b c X w F) (by simp) (by simp)
  ⟨by simp [hrb],by simp,by simp,nlV,[],by simp,h10⟩ (by decide) (fun _ _ _ _ h=>by unfold CoI at h ⊢; simpa using h) (fun _ _ _ _ h=>by unfold CoI at h ⊢; simpa using h) ?_ ?_
 ·clear h h1 h2 h3 h4 h5 h6 h7 h8 h9 h10 htO hT4
  rintro k ρ w5 hk hck hlk ⟨g2,g3,g20,ov,os,hos,h5⟩
  obtain ⟨o,ho⟩:∃o,T.ops[k]? = some o:=⟨_,List.getElem?_eq_getElem hk⟩
  have hom:=List.mem_of_getElem? ho
  have hog:=hg.ops o hom
  have hpl:=hog.pre.len
  have hvl:=hg.vlen
  have hel:=hog.elen
  have hrd:∀{ov os},Rds (OpA ov os (Star (ObjA ob (tcO a b c ov)) X)) fun w'=>NtR w' T:=fun {ov os}=>by
   unfold OpA
   exact Rds.star (Rds.star (Rds.star (Rds.star (Rds.star hXr))))
  have hT5:NtR w5 T:=by
   obtain ⟨_,hq,_⟩:=h5.ex
   exact hrd _ _ hq
  have hL5:Lcl (OpA ov os (Star (ObjA ob (tcO a b c ov)) X)):=OpA.lcl (Lcl.obj.star hXB)
  have ec:=hT5.ops.cells noE_len ho
  simp only [noE] at ec
  have hki:(k:Int) < T.ops.length:=by omega
  obtain ⟨opb,hopb⟩:∃opb,opb=w5.heap.size:=⟨_,rfl⟩
  simp (disch:=omega) [g20,hck,hlk,hT5.ops.idx,ec,←hopb]
  refine st_oq (o:=o.raw) hL5 h5 hopb fun w6 h6=>?_
  have oo6:=h6.obj
  unfold oqO No.raw at oo6
  have hT6:NtR w6 T:=by
   obtain ⟨_,hq,_⟩:=h6.drop.ex
   exact hrd _ _ hq
  simp [cell_blk oo6,←hopb]
  refine cl_of (cloneF_spec o.pv.1 o.pre (hT6.op o hom).pre (by omega)) ?_
  rintro pc w7 n7
  have h7:=(At.nw (Lcl.obj.star hL5) h6 n7).by Imp.sw
  have hL7:Lcl (Star (OwnA pc 85 2 fcE o.pre) (OpA ov os (Star (ObjA ob (tcO a b c ov)) X))):=Lcl.own.star hL5
  have pc1:=n7.own.c1
  have po1:=n7.own.o1
  unfold oqO No.raw at h7
  simp [pc1,←hopb]
  refine h7.st hL7 (by simp) (by simp [po1]) fun w8 h8=>?_
  simp at h8
  have oo8:=h8.obj
  have hT8:NtR w8 T:=by
   obtain ⟨_,hq,_⟩:=h8.drop.drop.ex
   exact hrd _ _ hq
  have hR8:=hT8.op o hom
  have hLo8:Lcl (Star (ObjA opb (.cells #[.string o.name,.int .i64 (o.cost:Nat),pc,o.ev.1] 66 (0,0))) (Star (OwnA pc 85 2 fcE o.pre) (OpA ov os (Star (ObjA ob (tcO a b c ov)) X)))):=Lcl.obj.star hL7
  have h9:=VwsA.nil (enc:=fcE) hLo8 h8
  have h10:=h9.nil (E:=111) (sz:=3) (enc:=nfE) (Lcl.vws.star hLo8)
  have h10':At w F (EfA nlV [] (Star (ObjA opb (.cells #[.string o.name,.int .i64 (o.cost:Nat),pc,o.ev.1] 66 (0,0))) (Star (OwnA pc 85 2 fcE o.pre) (OpA ov os (Star (ObjA ob (tcO a b c ov)) X))))) w8:=h10
  simp (disch:=omega) [cell_blk oo8,←hopb,hR8.effs.len]
  refine range_loop (n:=o.effs.length) (by omega) (CeI rb ob opb T.ov.1 T.ops.length k (.cells #[.string o.name,.int .i64 (o.cost:Nat),pc,o.ev.1] 66 (0,0)) (Star (OwnA pc 85 2 fcE o.pre) (OpA ov os (Star (ObjA ob (tcO a b c ov)) X))) w F o) (by simp) (by simp)
   ⟨by simp [g2],by simp [g3],by simp [hopb],by simp [g20],by simp [hlk],by simp [hck],by simp,[],by simp,by simpa [nlV] using h10'⟩ (by decide) (fun _ _ _ _ h=>by unfold CeI at h ⊢; simpa using h) (fun _ _ _ _ h=>by unfold CeI at h ⊢; simpa using h) ?_ ?_
  ·clear h6 h7 h8 h9 h10 h10' oo6 oo8 hT8 hR8 hT6 n7
   rintro j ρ w9 hj hcj hlj ⟨e2,e3,e5,e20,e21,e22,e31,es,hes,h9⟩
   obtain ⟨x,hx⟩:∃x,o.effs[j]? = some x:=⟨_,List.getElem?_eq_getElem hj⟩
   have hxm:=List.mem_of_getElem? hx
   have hcl:=(hog.cnd x hxm).len
   have hse:es.length=j:=by
    have:=congrArg List.length hes
    rw [List.length_map,List.length_map,List.length_take] at this
    omega
   obtain ⟨evx,hev⟩:∃evx,ρ 6=evx:=⟨_,rfl⟩
   rw [hev] at h9
   obtain ⟨Z,hZ⟩:∃Z,Z=Star (ObjA opb (.cells #[.string o.name,.int .i64 (o.cost:Nat),pc,o.ev.1] 66 (0,0))) (Star (OwnA pc 85 2 fcE o.pre) (OpA ov os (Star (ObjA ob (tcO a b c ov)) X))):=⟨_,rfl⟩
   rw [←hZ] at h9
   have hLZ:Lcl Z:=by rw [hZ]; exact Lcl.obj.star hL7
   have hrZ:Rds Z fun w'=>NtR w' T:=by rw [hZ]; exact Rds.star (Rds.star hrd)
   have hrE:Rds (EfA evx es Z) fun w'=>NtR w' T:=Rds.star (Rds.star hrZ)
   have hR9:NoR w9 o:=by
    obtain ⟨_,hq,_⟩:=h9.ex
    exact (hrE _ _ hq).op o hom
   have ec9:=hR9.effs.cells nfE_len hx
   simp only [nfE] at ec9
   have hji:(j:Int) < o.effs.length:=by omega
   obtain ⟨eb,heb⟩:∃eb,eb=w9.heap.size:=⟨_,rfl⟩
   simp (disch:=omega) [e31,hcj,hlj,hR9.effs.idx,ec9,←heb]
   refine st_ef (e:=x.raw) (EfA.lcl hLZ) h9 heb fun w10 h10=>?_
   have oe10:=h10.obj
   unfold efO Nf.raw at oe10
   have hR10:NoR w10 o:=by
    obtain ⟨_,hq,_⟩:=h10.drop.ex
    exact (hrE _ _ hq).op o hom
   simp [cell_blk oe10,←heb]
   refine cl_of (cloneF_spec x.wv.1 x.cnd (hR10.cnd x hxm) (by omega)) ?_
   rintro cc w11 n11
   have h11:=(At.nw (Lcl.obj.star (EfA.lcl hLZ)) h10 n11).by Imp.sw
   have cc1:=n11.own.c1
   have co1:=n11.own.o1
   have hL11:Lcl (Star (OwnA cc 85 2 fcE x.cnd) (EfA evx es Z)):=Lcl.own.star (EfA.lcl hLZ)
   unfold efO Nf.raw at h11
   simp [cc1,←heb]
   refine h11.st hL11 (by simp) (by simp [co1]) fun w12 h12=>?_
   simp at h12
   have oe12:=rd_c3 h12.obj
   have h13:=(h12.by Imp.dr).by Imp.sw
   simp [hev,oe12,←heb,rowOf]
   have hL13:Lcl (Star (OwnA cc 85 2 fcE x.cnd) (Star (VwsA fcE (es.map cdE)) Z)):=Lcl.own.star (Lcl.vws.star hLZ)
   have h14:=h13.kp0 (Lcl.own.star hL13) ((Kp.refl [] w12).alloc (.cells #[cc,.int .i64 (x.v:Nat),.int .i64 (x.x:Nat)] 111))
   refine At.append (xs:=[(⟨⟨cc,co1⟩,x.cnd,x.v,x.x⟩:Nf)]) hL13 h14 nfE_len nfE_one sl_64 rfl (fun j u hj=>?_) (by omega) (by unfold maxLen; omega) fun v' w15 h15=>?_
   ·rw [add_none,cell_blk alloc_new]
    simpa [nfE] using hj
   have h16:=h15.by (Imp.un (Imp.ow.trans (VwsA.add co1)))
   simp [hcj,hlj]
   refine ⟨by simp [e2],by simp [e3],by simp [e5],by simp [e20],by simp [e21],by simp [e22],by simp [e31],es ++ [(⟨⟨cc,co1⟩,x.cnd,x.v,x.x⟩:Nf)],?_,?_⟩
   ·rw [List.map_append,hes,List.take_add_one,hx,List.map_append]
    rfl
   ·unfold EfA
    rw [List.map_append]
    rw [hZ] at h16
    exact h16
  ·clear h6 h7 h8 h9 h10 h10' oo6 oo8 hT8 hR8 hT6 n7
   rintro ρ w9 ⟨e2,e3,e5,e20,e21,e22,e31,es,hes,h9⟩
   rw [List.take_length] at hes
   obtain ⟨evx,hev⟩:∃evx,ρ 6=evx:=⟨_,rfl⟩
   rw [hev] at h9
   unfold EfA OpA at h9
   have ev1:=h9.own.c1
   have eo1:=h9.own.o1
   have h10:=h9.by Imp.fr3
   simp [hev,e5,ev1]
   refine h10.st (by repeat' (first | exact hXB | exact Lcl.own | exact Lcl.obj | exact Lcl.vws | apply Lcl.star)) (by simp) (by simp [eo1]) fun w11 h11=>?_
   simp at h11
   have oo11:=rd_c4 h11.obj
   have ob11:=h11.drop.drop.drop.drop.drop.drop.drop.drop.obj
   unfold tcO at ob11
   have hol:os.length=k:=by
    have:=congrArg List.length hos
    rw [List.length_map,List.length_map,List.length_take] at this
    omega
   simp [e3,e5,cell_blk ob11,oo11,rowOf]
   have h12:=(h11.by Imp.dr).by Imp.fr4
   obtain ⟨o',ho'⟩:∃o':No,o'=⟨o.name,o.cost,⟨pc,po1⟩,o.pre,⟨evx,eo1⟩,es⟩:=⟨_,rfl⟩
   have hLs:Lcl (Star (OwnA evx 111 3 nfE es) (Star (VwsA fcE (es.map cdE)) (Star (OwnA pc 85 2 fcE o.pre) (Star (VwsA fcE (os.map pvW)) (Star (VwsA nfE (os.map evW)) (Star (VwsA fcE (os.flatMap cdW)) (Star (ObjA ob (tcO a b c ov)) X))))))):=Lcl.own.star (Lcl.vws.star (Lcl.own.star (Lcl.vws.star (Lcl.vws.star (Lcl.vws.star (Lcl.obj.star hXB))))))
   have h13:=h12.kp0 (Lcl.own.star hLs) ((Kp.refl [] w11).alloc (.cells #[.string o.name,.int .i64 (o.cost:Nat),pc,evx] 66))
   refine At.append (xs:=[o']) hLs h13 noE_len noE_one sl_24 rfl (fun j u hj=>?_) (by omega) (by unfold maxLen; omega) fun ov' w14 h14=>?_
   ·rw [add_none,cell_blk alloc_new]
    rw [ho'] at hj
    simpa [noE] using hj
   have ov1:=h14.own.c1
   have ovo:=h14.own.o1
   have h15:=h14.by Imp.fr8
   unfold tcO at h15
   simp [e3,ov1]
   refine h15.st (by repeat' (first | exact hXB | exact Lcl.own | exact Lcl.obj | exact Lcl.vws | apply Lcl.star)) (by simp) (by simp [ovo]) fun w16 h16=>?_
   simp at h16
   have h17:=(h16.by Imp.bk8).by (Imp.un (OpA.fold po1 eo1))
   simp [e21,e22]
   refine ⟨by simp [e2],by simp [e3],by simp [e20],ov',os ++ [o'],?_,?_⟩
   ·rw [List.map_append,hos,List.take_add_one,ho,List.map_append,ho']
    simp [skO,hes]
   ·unfold OpA tcO
    rw [List.map_append,List.map_append,List.flatMap_append]
    have e7:[o'].flatMap cdW=es.map cdE:=by rw [ho']; simp [cdW]; exact fun _ _=>rfl
    rw [e7]
    rw [ho'] at h17 ⊢
    exact h17
 ·clear h h1 h2 h3 h4 h5 h6 h7 h8 h9 h10 htO hT4
  rintro ρ w5 ⟨g2,g3,g20,ov,os,hos,h5⟩
  rw [List.take_length] at hos
  rw [hX] at h5
  unfold OpA at h5
  have ob5:=rd_tc h5.drop.drop.drop.drop.obj
  have ov1:=h5.own.c1
  have ovo:=h5.own.o1
  have a1:=h5.drop.drop.drop.drop.drop.own.c1
  have ao:=h5.drop.drop.drop.drop.drop.own.o1
  have b1:=h5.drop.drop.drop.drop.drop.drop.own.c1
  have bo:=h5.drop.drop.drop.drop.drop.drop.own.o1
  have c1:=h5.drop.drop.drop.drop.drop.drop.drop.own.c1
  have co:=h5.drop.drop.drop.drop.drop.drop.drop.own.o1
  have h6:=h5.by Imp.fr10
  unfold tcO at h6
  simp [g2,g3,ob5,ov1,a1,b1,c1]
  refine h6.st (by repeat' (first | exact hB | exact Lcl.own | exact Lcl.obj | exact Lcl.vws | apply Lcl.star)) (by simp) (by simp [ovo,ao,bo,co]) fun w7 h7=>?_
  simp [nlV] at h7
  simp
  refine postL_c1 ag_26 (by simp [g2]) h7.obj (by simp) rfl ?_
  refine ⟨_,rfl,⟨⟨a,ao⟩,⟨b,bo⟩,⟨c,co⟩,⟨ov,ovo⟩,T.vars,T.init,T.goal,os⟩,by simp [ntV],⟨rfl,rfl,rfl,hos⟩,?_⟩
  have h8:=h7.by Imp.dr
  have h9:=(h8.by (Imp.un4 Imp.dr)).by (Imp.un4 (Imp.un3 Imp.dr))
  have h10:=(((h9.by Imp.fr7).by Imp.fr7).by Imp.fr7)
  have h11:=h10.by (Imp.trans Imp.ow (Imp.un (Imp.trans Imp.ow (Imp.un (Imp.trans Imp.ow (Imp.un Imp.ow))))))
  have h12:=((((((h11.by (Imp.un (Imp.un4 Imp.as))).by (Imp.un4 Imp.as)).by (Imp.un (Imp.un (Imp.un Imp.as)))).by (Imp.un (Imp.un Imp.as))).by (Imp.un Imp.as))).by Imp.as
  exact h12
end
end Go.Proofs.YtcoeknnghfajnaaGreat
end
section
namespace Go.Proofs.YtcoeknnghfajnaaGreat
open Go Go.W Go.Tk Go.Rx Go.Bd Go.Sy Go.Maps
def hbL (vars st:List Nat) (m:Nat):List Bool:=(List.range (2 * nBits vars)).map fun i=>decide (i < 2 * m) && (decide (i % 2=0) && mk2 vars st [] i)
theorem hbL_len (vars st:List Nat) (m:Nat):(hbL vars st m).length=2 * nBits vars:=by simp [hbL]
theorem hbL_zero (vars st:List Nat):hbL vars st 0=List.replicate (2 * nBits vars) false:=by
 unfold hbL
 apply List.ext_getElem
 ·simp
 ·intro i h1 h2
  simp
theorem hbL_set {vars st:List Nat} {m:Nat} (hm:m < nBits vars):(hbL vars st m).set (2 * m) (mk2 vars st [] (2 * m))=hbL vars st (m+1):=by
 unfold hbL
 apply List.ext_getElem
 ·simp
 ·intro i h1 h2
  rw [List.getElem_set]
  simp only [List.getElem_map,List.getElem_range]
  by_cases h:2 * m=i
  ·subst h
   rw [if_pos rfl]
   have e1:decide (2 * m < 2 * (m+1))=true:=by simp
   have e2:decide (2 * m % 2=0)=true:=by simp
   rw [e1,e2]
   rfl
  ·rw [if_neg h]
   by_cases h3:i % 2=0
   ·have:decide (i < 2 * m)=decide (i < 2 * (m+1)):=by
     rw [decide_eq_decide]
     omega
    rw [this]
   ·have:decide (i % 2=0)=false:=by simp [h3]
    rw [this]
    simp
theorem hbL_in {vars st:List Nat} {p:Nat} (hp:p < nBits vars):inB (hbL vars st (nBits vars)) (2 * p+0)=mk2 vars st [] (2 * p+0):=by
 have h1:2 * p < 2 * nBits vars:=by omega
 unfold inB hbL
 simp [List.getD,h1,hp]
section
variable {w w1:World} {F:List Nat} {A B B':Asr} {s m lim:Nat} {T:Nt} {q:SpC} {ns:Ns} {ks:List (Nat × Bool)} {ss:List (Nat × Nat)}
theorem SpcA.fv (h:At w F (SpcA s m lim T q ns ks ss B) w1):Vw w1 q.fv nE (firstL T.vars):=by
 unfold SpcA at h
 exact h.drop.drop.own.vw
theorem SpcA.wv (h:At w F (SpcA s m lim T q ns ks ss B) w1):Vw w1 q.wv nE (widthL T.vars):=by
 unfold SpcA at h
 exact h.drop.drop.drop.own.vw
def HsI (s m lim:Nat) (T:Nt) (q:SpC) (ns:Ns) (ks:List (Nat × Bool)) (ss:List (Nat × Nat)) (B:Asr) (w:World) (F:List Nat) (a:Nat) (st:List Nat) (sv bw:Value) (p:Nat) (ρ:Env) (w':World):Prop :=
 ρ 0=.pointer (some ⟨s,0,none⟩)∧ρ 1=.int .i64 (a:Nat)∧ρ 8=bw∧ρ 38=sv∧At w F (Star (OwnA bw 4 1 bv (hbL T.vars st p)) (SpcA s m lim T q ns ks ss B)) w'
set_option maxHeartbeats 4000000 in
theorem has_spec (a:Nat) (sv:Value) (st:List Nat) (P:List Nat→Bool) (hG:SpG lim T q ns ks ss) (hB:Lcl B) (h:At w F (SpcA s m lim T q ns ks ss B) w1) (ha:Kn T ns ks a P) (hr:Rds B fun w'=>Vw w' sv nE st) (hst:StN T.vars st) :
  Calls Tryz.prog 15 [.pointer (some ⟨s,0,none⟩),.int .i64 (a:Nat),sv].toArray w1 fun en w'=>∃v,en=.returned v∧v=.tuple #[.bool (P st),.nilIface]∧At w F (SpcA s m lim T q ns ks ss B) w':=by
 refine enter Tryz.func15 mixed low15 (Nat.le_of_ble_eq_true rfl) ?_
 simp only [L15]
 have os:=SpcA.obj h
 unfold spO at os
 rw [hG.cells.1] at os
 have hT:=SpcA.tsk h
 have hvl:=hG.g.vlen
 have hsl:=hst.len
 have hbt:=hG.ok.bt
 have hale:=ha.le hG
 have hka:i64ok a:=by unfold i64ok; omega
 have hLS:Lcl (SpcA s m lim T q ns ks ss B):=SpcA.lcl hB
 obtain ⟨n,hn2⟩:∃n,n=2 * nBits T.vars:=⟨_,rfl⟩
 have hnI:(2:Int) * (nBits T.vars:Nat)=(n:Int):=by omega
 simp [cell_blk os]
 refine MapM.look1 (x:=a) (SpcA.km h) bkeyI Tryz.underlying72 zbool hka ?_
 simp [ha.kn,boolV,cell_blk os]
 refine cl_of (tproper_spec T.vv.1 sv _ _ (vw_n.2 hT.vars) (vw_n.2 (SpcA.frame h hr)) (by simp; omega)) ?_
 rintro _ w2 ⟨rfl,k2⟩
 have h2:=h.kp0 hLS k2
 have os2:=SpcA.obj h2
 unfold spO at os2
 have h3:=h2.made (E:=4) (enc:=bv) (x:=false) (z:=[.bool false]) (n:=n) hLS rfl bv_len (by unfold maxLen; omega)
 have hsv2:=SpcA.frame h2 hr
 rw [hn2,←hbL_zero T.vars st,←hn2] at h3
 simp (disch:=omega) [hst.ok,cell_blk os2,wrap_i64,hnI]
 refine gd_mk (by omega) ?_
 simp [hsv2.len]
 obtain ⟨bw,hbw⟩:∃bw,bw=Value.slice (some ⟨w2.heap.size,0,none⟩) n n:=⟨_,rfl⟩
 rw [←hbw] at h3 ⊢
 refine range_loop (n:=st.length) (by omega) (fun v ρ w'=>HsI s m lim T q ns ks ss B w F a st sv bw (bP T.vars v) ρ w') (by simp) (by simp)
  ⟨by simp,by simp,by simp,by simp,h3⟩ (by decide) (fun _ _ _ _ h=>by unfold HsI at h ⊢; simpa using h) (fun _ _ _ _ h=>by unfold HsI at h ⊢; simpa using h) ?_ ?_
 ·rintro v ρ w4 hv hcv hlv ⟨e0,e1,e8,e38,h4⟩
  obtain ⟨x,hx⟩:∃x,st[v]? = some x:=⟨_,List.getElem?_eq_getElem hv⟩
  have hxd:st.getD v 0=x:=by simp [List.getD,hx]
  have hvt:v < T.vars.length:=by omega
  obtain ⟨nn,hvn⟩:∃nn,T.vars[v]? = some nn:=⟨_,List.getElem?_eq_getElem hvt⟩
  have hnd:T.vars.getD v 0=nn:=by simp [List.getD,hvn]
  have hw6:=wd_le nn
  obtain ⟨W,hW⟩:∃W,W=wd nn:=⟨_,rfl⟩
  rw [←hW] at hw6
  have hxr:=hst.rng v hvt
  have hn64:=(hG.g.vars (T.vars.getD v 0) (by simp [List.getD,List.getElem?_eq_getElem hvt])).2
  have h4s:=h4.by Imp.dr
  have hs4:=SpcA.frame h4s hr
  have os4:=SpcA.obj h4s
  unfold spO at os4
  have hwv4:=SpcA.wv h4s
  have hwc:=nE_cell hwv4 (widthL_at hvn)
  rw [←hW] at hwc
  have hvi:(v:Int) < st.length:=by omega
  have hvw:(v:Int) < (widthL T.vars).length:=by simp [widthL]; omega
  simp (disch:=omega) [e0,e38,hcv,hlv,hs4.idx,nE_cell hs4 hx,cell_blk os4,hwv4.idx,hwc]
  refine range_loop (n:=W) (by omega) (fun k ρ w'=>ρ 9=.int .i64 (v:Nat)∧ρ 10=.int .i64 (x:Nat)∧ρ 39=.int .i64 (st.length:Nat)∧ρ 40=.int .i64 (v:Nat)∧HsI s m lim T q ns ks ss B w F a st sv bw (bP T.vars v+k) ρ w') (by simp) (by simp)
   ⟨by simp,by simp,by simp [hlv],by simp [hcv],by simp [e0],by simp [e1],by simp [e8],by simp [e38],h4⟩ (by decide) (fun _ _ _ _ h=>by unfold HsI at h ⊢; simpa using h) (fun _ _ _ _ h=>by unfold HsI at h ⊢; simpa using h) ?_ ?_
  ·rintro k ρ w5 hk hck hlk ⟨g9,g10,g39,g40,g0,g1,g8,g38,h5⟩
   have h5s:=h5.by Imp.dr
   have os5:=SpcA.obj h5s
   unfold spO at os5
   have hwv5:=SpcA.wv h5s
   have hfv5:=SpcA.fv h5s
   have hwc5:=nE_cell hwv5 (widthL_at hvn)
   rw [←hW] at hwc5
   have hfc5:=nE_cell hfv5 (firstL_at hvt)
   have hvf:(v:Int) < (firstL T.vars).length:=by simp [firstL]; omega
   have hbp:=bP_in hvn (show k < wd nn by omega)
   obtain ⟨p2,hp2⟩:∃p,p=bP T.vars v+k:=⟨_,rfl⟩
   have ei1:(bP T.vars v:Int)+(k:Int)=(p2:Int):=by omega
   obtain ⟨p3,hp3⟩:∃p,p=2 * p2:=⟨_,rfl⟩
   have ei2:2 * (p2:Int)=(p3:Int):=by omega
   obtain ⟨d,hd⟩:∃d,d=W - 1 - k:=⟨_,rfl⟩
   have ed1:(W:Int) - 1=((W - 1:Nat):Int):=by omega
   have ed:((W - 1:Nat):Int) - (k:Int)=(d:Int):=by omega
   have hsa:=shr_and (x:=x) (d:=d) (by omega) (by omega)
   have hl5:(hbL T.vars st p2).length=n:=by rw [hbL_len,hn2]
   have hmk:mk2 T.vars st [] p3=x.testBit d:=by
    have h:=mk2_at (x:=st) (y:=[]) (nx:=0) hvn (show k < wd nn by omega) (by omega)
    rw [if_pos rfl,hxd,Nat.add_zero] at h
    rw [hp3,hp2,hd,hW]
    exact h
   rw [←hp2] at h5 hbp
   have hp3i:(p3:Int) < n:=by omega
   have h5d:=h5.drew (Lcl.own.star hLS)
   have ep:bP T.vars v+(k+1)=p2+1:=by rw [hp2]; rfl
   cases hbit:x.testBit d with
   | true =>
    rw [hbit,if_pos rfl] at hsa
    have e6:(hbL T.vars st p2).set p3 true=hbL T.vars st (p2+1):=by rw [←hbit,←hmk,hp3]; exact hbL_set hbp
    simp (disch:=omega) [g0,g8,g9,g10,hck,hlk,cell_blk os5,hwv5.idx,hwc5,hfv5.idx,hfc5,ei1,ei2,ed1,ed,wrap_i64,hsa,h5.own.idx,hl5]
    refine h5d.store1 (x:=true) hLS bv_len bv_one (by rw [hl5]; omega) rfl fun w6 h6=>?_
    rw [e6,←ep] at h6
    simp only [↓wpT_nil,put_none,merge_nil,rangeQ_nrm]
    simp [g9,g10,g39,g40,hck,hlk]
    exact ⟨by simpa using g0,by simpa using g1,by simpa using g8,by simpa using g38,h6⟩
   | false =>
    rw [hbit,if_neg (by simp)] at hsa
    have e6:(hbL T.vars st p2).set p3 false=hbL T.vars st (p2+1):=by rw [←hbit,←hmk,hp3]; exact hbL_set hbp
    simp (disch:=omega) [g0,g8,g9,g10,hck,hlk,cell_blk os5,hwv5.idx,hwc5,hfv5.idx,hfc5,ei1,ei2,ed1,ed,wrap_i64,hsa,h5.own.idx,hl5]
    refine h5d.store1 (x:=false) hLS bv_len bv_one (by rw [hl5]; omega) rfl fun w6 h6=>?_
    rw [e6,←ep] at h6
    simp only [↓wpT_nil,put_none,merge_nil,rangeQ_nrm]
    simp [g9,g10,g39,g40,hck,hlk]
    exact ⟨by simpa using g0,by simpa using g1,by simpa using g8,by simpa using g38,h6⟩
  ·rintro ρ w5 ⟨g9,g10,g39,g40,g0,g1,g8,g38,h5⟩
   rw [hW,←bP_succ hvn] at h5
   simp [g39,g40]
   exact ⟨by simp [g0],by simp [g1],by simp [g8],by simp [g38],h5⟩
 rintro ρ w4 ⟨e0,e1,e8,e38,h4⟩
 rw [hsl,bP_all] at h4
 have h4s:=h4.by Imp.dr
 have os4:=SpcA.obj h4s
 unfold spO at os4
 simp [e0,e1,e8,cell_blk os4]
 refine cl_of (eval_spec a bw (hbL T.vars st (nBits T.vars)) (SpcA.mgr h4s) hG.ok.bnd hG.ok.wf ha.ok.1 h4.own.vw (by rw [hbL_len]; omega)) ?_
 rintro _ w5 ⟨rfl,k5⟩
 have h5:=h4s.kp0 hLS k5
 have hrs:rs T.vars (inB (hbL T.vars st (nBits T.vars))) 0=st:=(rs_congr fun p hp=>hbL_in hp).trans (rs_mk2 (y:=[]) (fun n hn=>(hG.g.vars n hn).2) hst)
 have hok:okB T.vars (inB (hbL T.vars st (nBits T.vars)))=true:=okB_iff.2 (by rw [hrs]; exact hst)
 simp [ha.ok.2,hok,hrs]
 exact h5
end
end Go.Proofs.YtcoeknnghfajnaaGreat
end
section
namespace Go.Proofs.YtcoeknnghfajnaaGreat
open Go Go.W Go.Tk Go.Rx Go.Bd Go.Sy Go.Maps
def zB (k n:Nat) (a:Nat→Bool):Bool:=(List.range (k - n)).all fun j=>!a (2 * (n+j)+1)
theorem zB_end {k:Nat} {a:Nat→Bool}:zB k k a=true:=by unfold zB; simp
theorem zB_step {k n:Nat} {a:Nat→Bool} (h:n < k):zB k n a=(!a (2 * n+1) && zB k (n+1) a):=by
 unfold zB
 rw [show k - n=(k - (n+1))+1 by omega,List.range_succ_eq_map,List.all_cons,List.all_map]
 congr 1
 refine congrArg (fun f=>(List.range (k - (n+1))).all f) ?_
 funext j
 simp only [Function.comp]
 rw [show n+j.succ=n+1+j by omega]
theorem zB_all {k:Nat} {a:Nat→Bool}:zB k 0 a=true↔∀p,p < k→a (2 * p+1)=false:=by
 unfold zB
 rw [List.all_eq_true]
 constructor
 ·intro h p hp
  have:=h p (List.mem_range.2 (by omega))
  simpa using this
 ·intro h j hj
  have:=h j (by have:=List.mem_range.1 hj; omega)
  simpa using this
def ctF (vars:List Nat) (P:List Nat→Bool) (a:Nat→Bool):Bool:=(okB vars a && P (rs vars a 0)) && zB (nBits vars) 0 a
def CRes (s m lim:Nat) (T:Nt) (q:SpC) (ns:Ns) (ks:List (Nat × Bool)) (ss:List (Nat × Nat)) (B:Asr) (w:World) (F:List Nat) (W:((Nat→Bool)→Bool)→Prop) (P:List Nat→Bool) (v:Value) (w':World):Prop :=
 ∃e' ns',v=(if e'=true then .tuple #[.int .i64 0,eB true] else cntV (num (2 * nBits T.vars) 0 (ctF T.vars P)))∧Stp (2 * nBits T.vars) lim W false ns e' ns'∧SpG lim T q ns' ks ss∧At w F (SpcA s m lim T q ns' ks ss B) w'
def CtI (b s m lim:Nat) (vars:List Nat) (q:SpC) (ns:Ns) (R:Asr) (w:World) (F:List Nat) (W:((Nat→Bool)→Bool)→Prop) (a n:Nat) (ρ:Env) (w':World):Prop :=
 ρ 0=.pointer (some ⟨s,0,none⟩)∧ρ 1=.int .i64 (a:Nat)∧ρ 6=.pointer (some ⟨b,0,none⟩)∧ρ 8=.int .i64 (2 * (n:Int) - 1)∧n≤nBits vars ∧
  ∃f e' ns',ρ 7=.int .i64 (f:Nat)∧Stp (2 * nBits vars) lim W false ns e' ns'∧Mn ns' e' f (zB (nBits vars) n)∧At w F (BlA b s m lim vars q e' ns' R) w'
section
variable {w w1:World} {F:List Nat} {A B B':Asr} {s m lim:Nat} {T:Nt} {q:SpC} {ns:Ns} {ks:List (Nat × Bool)} {ss:List (Nat × Nat)} {W:((Nat→Bool)→Bool)→Prop}
set_option maxHeartbeats 4000000 in
theorem count_spec (a:Nat) (P:List Nat→Bool) (hG:SpG lim T q ns ks ss) (hB:Lcl B) (h:At w F (SpcA s m lim T q ns ks ss B) w1) (ha:Kn T ns ks a P) (hL:LitW T.vars W) (hZ:∀j,j < nBits T.vars→W (zB (nBits T.vars) j)) (hC:W (ctF T.vars P)) :
  Calls Tryz.prog 10 [.pointer (some ⟨s,0,none⟩),.int .i64 (a:Nat)].toArray w1 fun en w'=>∃v,en=.returned v∧CRes s m lim T q ns ks ss B w F W P v w':=by
 refine enter Tryz.func10 mixed low10 (Nat.le_of_ble_eq_true rfl) ?_
 simp only [L10]
 have os:=SpcA.obj h
 unfold spO at os
 have hbt:=hG.ok.bt
 have hale:=ha.le hG
 have hka:i64ok a:=by unfold i64ok; omega
 simp [cell_blk os]
 refine MapM.look1 (x:=a) (SpcA.km h) bkeyI Tryz.underlying72 zbool hka ?_
 obtain ⟨bb,hbb⟩:∃bb,bb=w1.heap.size:=⟨_,rfl⟩
 have h2:=SpcA.bl hB h
 obtain ⟨w2,hw2⟩:∃w2,w2=w1.alloc (blO s false):=⟨_,rfl⟩
 rw [←hbb,←hw2] at h2
 have hw2':w1.alloc (.cells #[.pointer (some ⟨s,0,none⟩),.nilIface] 81 (0,0))=w2:=by rw [hw2]; rfl
 have hR:Lcl (RestA T q ks ss B):=RestA.lcl hB
 have h2':=h2
 unfold BlA at h2'
 have os2:=h2'.drop.drop.obj
 unfold spO at os2
 have e1:(2:Int) * (nBits T.vars:Nat)=((2 * nBits T.vars:Nat):Int):=by omega
 simp (disch:=omega) [ha.kn,boolV,←hbb,hw2',cell_blk os2,wrap_i64]
 refine loop_inv (CtI bb s m lim T.vars q ns (RestA T q ks ss B) w F W a) (nBits T.vars) ⟨by simp,by simp,by simp,by simp,Nat.le_refl _,1,false,ns,by simp,Stp.refl hG.ok.wf hG.ok.nl,one_mn hG.ok.wf _ _ (fun a=>zB_end),h2⟩ ?_
 clear h h2 h2' os os2
 rintro n ρ w3 ⟨g0,g1,g6,g8,hnl,f,e3,ns3,g7,hs,hmf,h3⟩
 have hk3:=hG.ok.stp hs
 have ma:Mn ns false a (setF T.vars P):=⟨hale,fun _=>ha.ok⟩
 by_cases hn0:n=0
 ·subst hn0
  have g8':ρ 8=.int .i64 (-1):=by rw [g8]; rfl
  simp [g8',g0,g1,g6,g7]
  refine cl_of (bAnd_spec a f _ _ hk3 hR h3 (ma.keep hG.ok.wf hs) hmf hC) ?_
  rintro _ w4 ⟨y4,e4,ns4,rfl,hs4,hm4,h4⟩
  have hk4:=hk3.stp hs4
  have hst:=hs.trans hs4
  have hG4:=hG.stp hst
  have h4':=h4
  unfold BlA at h4'
  have ob4:=h4'.drop.obj
  unfold blO at ob4
  cases e4 with
  | true =>
   simp [g6,cell_blk ob4,eB,berrV]
   exact ⟨true,ns4,by simp [eB,berrV],hst,hG4,(SpcA.un h4).drew (SpcA.lcl hB)⟩
  | false =>
   have h5:=SpcA.un h4
   have os5:=SpcA.obj h5
   unfold spO at os5
   have h5':=h5
   unfold SpcA at h5'
   obtain ⟨r4,ev4⟩:=hm4.2 rfl
   simp [g6,g0,cell_blk ob4,eB,cell_blk os5]
   refine cl_of (Count_spec m (2 * nBits T.vars) lim ns4 y4 (SpcA.rest hB) h5' hk4.wf hk4.bnd r4) ?_
   rintro _ w6 ⟨rfl,h6⟩
   have h6':At w F (SpcA s m lim T q ns4 ks ss B) w6:=h6
   have ef:(fun a=>eval ns4 a y4)=ctF T.vars P:=by
    funext x
    rw [ev4]
    rfl
   rw [ef]
   obtain ⟨va,vb,hv⟩:∃va vb,cntV (num (2 * nBits T.vars) 0 (ctF T.vars P))=.tuple #[va,vb]:=by
    unfold cntV
    split
    ·exact ⟨_,_,rfl⟩
    ·exact ⟨_,_,rfl⟩
   rw [hv]
   simp
   exact ⟨false,ns4,by rw [←hv]; rfl,hst,hG4,h6'⟩
 obtain ⟨j,rfl⟩:∃j,n=j+1:=⟨n - 1,by omega⟩
 have hj8:2 * ((j+1:Nat):Int) - 1=((2 * j+1:Nat):Int):=by omega
 rw [hj8] at g8
 obtain ⟨i,hi⟩:∃i,i=2 * j+1:=⟨_,rfl⟩
 rw [←hi] at g8
 have hi0:0 < i:=by omega
 have hand:W fun x=>!x i && zB (nBits T.vars) (j+1) x:=by
  have:=hZ j (by omega)
  rwa [show zB (nBits T.vars) j=fun x=>!x i && zB (nBits T.vars) (j+1) x from funext fun x=>by rw [zB_step (by omega),hi]] at this
 simp (disch:=omega) [g8,g6,hi0]
 refine cl_of (bBit_spec i hk3 hR h3 (by omega) (hL i (by omega)).1) ?_
 rintro _ w4 ⟨y4,e4,ns4,rfl,hs4,hm4,h4⟩
 have hk4:=hk3.stp hs4
 simp [g6]
 refine cl_of (bNot_spec y4 _ hk4 hR h4 hm4 (hL i (by omega)).2) ?_
 rintro _ w5 ⟨y5,e5,ns5,rfl,hs5,hm5,h5⟩
 have hk5:=hk4.stp hs5
 simp [g6,g7]
 refine cl_of (bAnd_spec y5 f _ _ hk5 hR h5 hm5 ((hmf.keep hk3.wf hs4).keep hk4.wf hs5) hand) ?_
 rintro _ w6 ⟨y6,e6,ns6,rfl,hs6,hm6,h6⟩
 simp (disch:=omega) [g8,wrap_i64]
 refine ⟨j,by omega,by simp [g0],by simp [g1],by simp [g6],by simp; omega,by omega,y6,e6,ns6,by simp,((hs.trans hs4).trans hs5).trans hs6,?_,h6⟩
 exact ⟨hm6.1,fun he=>⟨(hm6.2 he).1,fun x=>by rw [(hm6.2 he).2 x,zB_step (by omega),hi]⟩⟩
end
end Go.Proofs.YtcoeknnghfajnaaGreat
end
