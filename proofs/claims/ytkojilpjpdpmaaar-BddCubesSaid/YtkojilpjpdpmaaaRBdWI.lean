/-
  A part of the proofs of this seat's statements (BdWI); no conditions beyond those each theorem names.
-/
import Derived.Test.YtkojilpjpdpmaaaRBdWH
set_option maxRecDepth 100000
set_option linter.unusedSimpArgs false
set_option linter.unusedVariables false
namespace Go.Proofs.YtkojilpjpdpmaaaR
open Go Go.W Go.Bd Go.Maps
/-! ### Paths -/
def fv (q : Fc) : List Value := [.int .i64 (q.1 : Nat), .int .i64 (q.2 : Nat)]
theorem fv_len (q : Fc) : (fv q).length = 2 := rfl
theorem fv_one (q : Fc) : (fv q).all oneC = true := rfl
theorem clone_spec {w w1 : World} {F : List Nat} {B : Asr} (v : Value) (l : List Fc) (hB : Lcl B) (hA : At w F B w1) (hv : Vw w1 v fv l) (hl : l.length ≤ 1000000) :
    Calls Try.prog 74 [v].toArray w1 fun e w' => ∃ u, e = .returned u ∧ At w F (Star (OwnA u 77 2 fv l) B) w' := by
  refine enter Try.func74 mixed low74 (Nat.le_of_ble_eq_true rfl) ?_
  simp only [L74]
  rcases hv with ⟨rfl, rfl⟩ | ⟨a, cap, rfl, r⟩
  · simp
    exact At.nil hB hA
  · have hv : Vw w1 (.slice (some a) l.length cap) fv l := .inr ⟨a, cap, rfl, r⟩
    have h1 := At.lit (E := 77) (sz := 2) (xs := ([] : List Fc)) (enc := fv) (cs := #[]) hB hA rfl fv_len (by simp) (m := 0) rfl
    simp [rowOf]
    refine At.appendV (xs := l) hB h1 (hv.kp0 ((Kp.refl _ _).alloc _)) fv_len fv_one sl_75 (by simp; omega) (by simp; unfold maxLen; omega) fun v' w2 h2 => ?_
    simp at h2
    simp
    exact h2
def CuOk (most : Int) (k : Nat) (cs : List (List Fc)) : Prop := cs = [] ∨ ((k + cs.length : Nat) : Int) ≤ most
section
variable {most : Int} {k : Nat} {cs1 cs2 : List (List Fc)} {g h : List Fc → List Fc}
theorem CuOk.both (h1 : CuOk most k cs1) (h2 : CuOk most (k + cs1.length) cs2) : CuOk most k (cs1.map g ++ cs2.map h) := by
  unfold CuOk at *
  rcases h1 with rfl | h1
  · rcases h2 with rfl | h2
    · exact .inl rfl
    · refine .inr ?_; simp at h2 ⊢; omega
  · rcases h2 with rfl | h2
    · refine .inr ?_; simp at h1 ⊢; omega
    · refine .inr ?_; simp at h2 ⊢; omega
theorem CuOk.no1 (h1 : ¬ CuOk most k cs1) : ¬ CuOk most k (cs1.map g ++ cs2.map h) := by
  unfold CuOk at *
  rintro (h2 | h2)
  · simp at h2; exact h1 (.inl h2.1)
  · simp at h2; exact h1 (.inr (by omega))
theorem CuOk.no2 (h1 : ¬ CuOk most (k + cs1.length) cs2) : ¬ CuOk most k (cs1.map g ++ cs2.map h) := by
  unfold CuOk at *
  rintro (h2 | h2)
  · simp at h2; exact h1 (.inl h2.2)
  · simp at h2; exact h1 (.inr (by omega))
end
def CuPost (m n lim : Nat) (most : Int) (ns : Ns) (f : Nat) (path : List Fc) (outs : List (List Fc)) (pv : Value) (B : Asr) (w : World) (F : List Nat) (v : Value) (w' : World) : Prop :=
  (CuOk most outs.length (cubeF n ns f) ∧ ∃ ov', v = .tuple #[ov', .bool true] ∧ At w F (Star (LLA ov' 75 fv (outs ++ (cubeF n ns f).map (path ++ ·))) (Star (OwnA pv 77 2 fv path) (Star (MgrA m n lim ns) B))) w') ∨
  (¬ CuOk most outs.length (cubeF n ns f) ∧ ∃ x, v = .tuple #[x, .bool false] ∧ At w F (Star (OwnA pv 77 2 fv path) (Star (MgrA m n lim ns) B)) w')
set_option maxHeartbeats 4000000 in
theorem cubes_aux (m n lim : Nat) (most : Int) (ns : Ns) (hw : Wf n ns) (hb : Bnd n lim ns) (w : World) (F : List Nat) : ∀ (d f : Nat) (path : List Fc) (outs : List (List Fc)) (pv ov : Value) (B : Asr) (w1 : World), Lcl B → Ref ns f → f ≤ d →
    path.length ≤ tv n ns f → outs.length + 2 ^ (n - tv n ns f) ≤ 1000000 →
    At w F (Star (LLA ov 75 fv outs) (Star (OwnA pv 77 2 fv path) (Star (MgrA m n lim ns) B))) w1 →
    Calls Try.prog 66 [.pointer (some ⟨m, 0, none⟩), ov, pv, .int .i64 (f : Nat), .int .i64 most].toArray w1 fun e w' => ∃ v, e = .returned v ∧ CuPost m n lim most ns f path outs pv B w F v w' := by
  intro d
  induction d using Nat.strongRecOn with
  | ind d ih =>
  intro f path outs pv ov B w1 hB hf hd hpl hol hA
  have hbn := hb.hn
  have hbl := hb.hl
  have hbs := hb.hs
  have htn := hw.tv_le hf
  have hM : Lcl (Star (MgrA m n lim ns) B) := Lcl.mgr.star hB
  have hP : Lcl (Star (OwnA pv 77 2 fv path) (Star (MgrA m n lim ns) B)) := Lcl.own.star hM
  have hX : Lcl (Star (LLA ov 75 fv outs) (Star (OwnA pv 77 2 fv path) (Star (MgrA m n lim ns) B))) := Lcl.ll.star hP
  refine enter Try.func66 mixed low66 (Nat.le_of_ble_eq_true rfl) ?_
  simp only [L66]
  by_cases f0 : f = 0
  · subst f0
    simp
    exact .inl ⟨.inl cube_zero, ov, rfl, by rw [cube_zero]; simpa using hA⟩
  by_cases f1 : f = 1
  · subst f1
    have hp0 := Nat.two_pow_pos (n - tv n ns 1)
    simp
    refine cl_of (clone_spec pv path hX hA hA.drop.own.vw (by omega)) ?_
    rintro u w2 h2
    obtain ⟨ps, hps, h3⟩ := LLA.opn h2.rot
    have hpl2 : ps.length = outs.length := by rw [← hps]; simp
    have hBX : Lcl (Star (VwsA fv ps) (Star (OwnA u 77 2 fv path) (Star (OwnA pv 77 2 fv path) (Star (MgrA m n lim ns) B)))) := Lcl.vws.star (Lcl.own.star hP)
    have h4 := h3.kp0 (Lcl.own.star hBX) ((Kp.refl [] w2).alloc (.cells #[u] 75))
    have hu1 := h2.own.c1
    have hou := h2.own.o1
    simp [hu1, rowOf]
    refine At.append (xs := [((⟨u, hou⟩, path) : Cell1 × List Fc)]) hBX h4 sv1_len sv1_one sl_70 rfl (fun j x hj => ?_) (by omega) (by unfold maxLen; omega) fun v' w5 h5 => ?_
    · simp [sv1] at hj
      rw [add_none, cell_blk alloc_new]
      simpa using hj
    have h6 : At w F (Star (OwnA v' 75 1 sv1 (ps ++ [((⟨u, hou⟩, path) : Cell1 × List Fc)])) (Star (VwsA fv (ps ++ [((⟨u, hou⟩, path) : Cell1 × List Fc)])) (Star (OwnA pv 77 2 fv path) (Star (MgrA m n lim ns) B)))) w5 :=
      ((h5.rot3.own_vw).by (Imp.trans (Imp.un Imp.sw) (Imp.trans (VwsA.add hou) Imp.sw))).by Imp.rfl
    have h7 := LLA.cls (ls := outs ++ [path]) (by simp [hps]) h6
    have hl5 := h3.own.vw
    simp [hl5.len]
    have e1 : cubeF n ns 1 = [[]] := cube_one
    unfold CuPost
    rw [e1]
    by_cases hm : ((outs.length : Nat) : Int) < most
    · refine .inl ⟨.inr ?_, v', ?_, by simpa using h7⟩
      · simp; omega
      · have : ((ps.length : Nat) : Int) < most := by omega
        simp [this]
    · refine .inr ⟨?_, v', ?_, by simpa using h7.drop⟩
      · rintro (h | h)
        · cases h
        · simp at h; omega
      · have : ¬ ((ps.length : Nat) : Int) < most := by omega
        simp [this]
  have f2 : 2 ≤ f := by omega
  have l1 := hw.lt_low f2 hf
  have l2 := hw.lt_high f2 hf
  have t1 := hw.tv_low f2 hf
  have t2 := hw.tv_high f2 hf
  have tvn := hw.tv_var f2 hf
  have b0 := two_half (show 0 < n - tv n ns f by omega)
  have b1 := two_mono (show n - tv n ns (at_ n ns f).low ≤ n - tv n ns f - 1 by omega)
  have b2 := two_mono (show n - tv n ns (at_ n ns f).high ≤ n - tv n ns f - 1 by omega)
  have e0 : ((f : Int) == 0) = false := by rw [e_eq0]; simp [f0]
  have e1 : ((f : Int) == 1) = false := by rw [e_eq1]; simp [f1]
  simp [e0, e1]
  refine cl_of (at_spec m n lim f ns w1 (MgrA.rd hA.drop.drop) hb hf) ?_
  rintro _ w2 ⟨rfl, k2⟩
  have h3 := (hA.kp0 hX k2).alloc (.cells #[.int .i64 0, .int .i64 0, .int .i64 0] 90) hX
  simp [ndV, en_len]
  refine h3.st hX (by simp [en, ints]) (by simp [en, ints]) fun w4 h4 => ?_
  have e3 : ∀ d : Nd, wrAt #[.int .i64 0, .int .i64 0, .int .i64 0] 0 (en d) = (en d).toArray := fun d => by simp [en, ints]
  rw [e3] at h4
  obtain ⟨t, ht⟩ : ∃ t, t = w2.heap.size := ⟨_, rfl⟩
  rw [← ht] at h4 ⊢
  have hot := h4.obj
  simp [en, ints] at hot
  obtain ⟨v, hv⟩ : ∃ v, v = (at_ n ns f).v := ⟨_, rfl⟩
  have etv : tv n ns f = v := hv.symm
  have hcn := cube_node hw f2 hf
  rw [etv] at hcn
  have hLow := hw.ref_low hf
  have hHigh := hw.ref_high hf
  have cl1 := cube_len hw hLow
  have key : ∀ (x : Nat) (xi : Int) (hxi : xi = x) (ov : Value) (outs : List (List Fc)) (wa : World), At w F (Star (ObjA t (.cells (en (at_ n ns f)).toArray 90 (0, 0))) (Star (LLA ov 75 fv outs) (Star (OwnA pv 77 2 fv path) (Star (MgrA m n lim ns) B)))) wa →
      ∀ KV : Kont (Value × World), (∀ pv' wb R, Lcl R → At w F (Star (LLA ov 75 fv outs) (Star (OwnA pv' 77 2 fv (path ++ [(v, x)])) (Star (MgrA m n lim ns) (Star R (Star (ObjA t (.cells (en (at_ n ns f)).toArray 90 (0, 0))) B))))) wb →
        (∀ X, Imp (Star (OwnA pv' 77 2 fv (path ++ [(v, x)])) (Star R X)) (Star (OwnA pv 77 2 fv path) X)) → KV.run (pv', wb)) →
      @efH Try.prog (Builtin.append_ #[75, 75] 75 [pv, .slice (some ⟨wa.heap.size, 0, none⟩) 1 1].toArray) (wa.alloc (.cells #[.int .i64 (v : Nat), .int .i64 xi] 77)) KV := by
    intro x xi hxi ov outs wa ha KV hk
    subst hxi
    have hL : Lcl (Star (ObjA t (.cells (en (at_ n ns f)).toArray 90 (0, 0))) (Star (LLA ov 75 fv outs) (Star (MgrA m n lim ns) B))) := Lcl.obj.star (Lcl.ll.star hM)
    have hb1 := (ha.rot3).kp0 (Lcl.own.star hL) ((Kp.refl [] wa).alloc (.cells #[.int .i64 (v : Nat), .int .i64 (x : Nat)] 77))
    refine hb1.appendK (xs := [(v, x)]) hL fv_len fv_one sl_75 rfl (fun j y hj => ?_) (by omega) (by unfold maxLen; omega) fun pv' w2 R hR h2 hbk => ?_
    · rw [add_none, cell_blk alloc_new]
      simpa [fv] using hj
    · exact hk pv' w2 R hR (h2.rot4.by (Imp.un (Imp.un Imp.r3))) (fun X => hbk [(v, x)] X)
  have backI : ∀ {pv' R x}, (∀ X, Imp (Star (OwnA pv' 77 2 fv (path ++ [(v, x)])) (Star R X)) (Star (OwnA pv 77 2 fv path) X)) →
      Imp (Star (OwnA pv' 77 2 fv (path ++ [(v, x)])) (Star (MgrA m n lim ns) (Star R (Star (ObjA t (.cells (en (at_ n ns f)).toArray 90 (0, 0))) B)))) (Star (OwnA pv 77 2 fv path) (Star (MgrA m n lim ns) B)) := fun hbk =>
    ((Imp.sw.un).trans (hbk _)).trans (Imp.un (Imp.un Imp.dr))
  have back : ∀ {pv' R x wa}, (∀ X, Imp (Star (OwnA pv' 77 2 fv (path ++ [(v, x)])) (Star R X)) (Star (OwnA pv 77 2 fv path) X)) →
      At w F (Star (OwnA pv' 77 2 fv (path ++ [(v, x)])) (Star (MgrA m n lim ns) (Star R (Star (ObjA t (.cells (en (at_ n ns f)).toArray 90 (0, 0))) B)))) wa → At w F (Star (OwnA pv 77 2 fv path) (Star (MgrA m n lim ns) B)) wa := fun hbk h =>
    (h.by ((Imp.sw.un).trans (hbk _))).by (Imp.un (Imp.un Imp.dr))
  simp [cell_blk hot, ← hv]
  refine ⟨?_, ?_⟩ <;>
  · refine key 0 0 rfl ov outs w4.drew (h4.drew (Lcl.obj.star hX)) _ ?_
    intro pv1 w5 R1 hR1 h5 hbk1
    have hot5 := h5.drop.drop.drop.drop.obj
    simp [en, ints] at hot5
    simp [cell_blk hot5]
    refine cl_of (ih (d - 1) (by omega) (at_ n ns f).low (path ++ [(v, 0)]) outs pv1 ov _ w5 (hR1.star (Lcl.obj.star hB)) hLow (by omega) (by simp; omega) (by omega) h5) ?_
    rintro _ w6 (⟨okl, ov1, rfl, h6⟩ | ⟨okl, x, rfl, h6⟩)
    · have hot6 := h6.drop.drop.drop.drop.obj
      simp [en, ints] at hot6
      have h7 := (h6.by (Imp.sw.trans (Imp.un (Imp.r3.trans Imp.rfl)))).by (hbk1 _)
      have h8 := h7.by (Imp.r4.trans (Imp.un Imp.sw))
      simp [cell_blk hot6, ← hv]
      refine ⟨?_, ?_⟩ <;>
      · refine key 1 1 rfl ov1 _ w6.drew (h8.drew (Lcl.obj.star (Lcl.ll.star hP))) _ ?_
        intro pv2 w7 R2 hR2 h9 hbk2
        have hot9 := h9.drop.drop.drop.drop.obj
        simp [en, ints] at hot9
        simp [cell_blk hot9]
        refine cl_of (ih (d - 1) (by omega) (at_ n ns f).high (path ++ [(v, 1)]) _ pv2 ov1 _ w7 (hR2.star (Lcl.obj.star hB)) hHigh (by omega) (by simp; omega) (by simp; omega) h9) ?_
        rintro _ w8 (⟨okh, ov2, rfl, h10⟩ | ⟨okh, x, rfl, h10⟩)
        · simp
          have e9 : outs ++ (cubeF n ns f).map (path ++ ·) = outs ++ (cubeF n ns (at_ n ns f).low).map (path ++ [(v, 0)] ++ ·) ++ (cubeF n ns (at_ n ns f).high).map (path ++ [(v, 1)] ++ ·) := by
            rw [hcn]; simp [Function.comp_def]
          refine .inl ⟨?_, ov2, rfl, ?_⟩
          · rw [hcn]; exact okl.both (by simpa using okh)
          · rw [e9]; exact h10.by (Imp.un (backI hbk2))
        · simp
          refine .inr ⟨?_, x, rfl, back hbk2 h10⟩
          rw [hcn]; exact CuOk.no2 (by simpa using okh)
    · simp
      refine .inr ⟨?_, _, rfl, back hbk1 h6⟩
      rw [hcn]; exact CuOk.no1 okl
def CbPost (m n lim : Nat) (most : Int) (ns : Ns) (f : Nat) (B : Asr) (w : World) (F : List Nat) (v : Value) (w' : World) : Prop :=
  (CuOk most 0 (cubeF n ns f) ∧ ∃ ov', v = .tuple #[ov', .nilIface] ∧ At w F (Star (LLA ov' 75 fv (cubeF n ns f)) (Star (MgrA m n lim ns) B)) w') ∨
  (¬ CuOk most 0 (cubeF n ns f) ∧ v = .tuple #[.slice none 0 0, errV 10] ∧ At w F (Star (MgrA m n lim ns) B) w')
theorem Cubes_spec {w w1 : World} {F : List Nat} {B : Asr} (m n lim : Nat) (most : Int) (ns : Ns) (f : Nat) (hn : n ≤ 18) (hB : Lcl B) (hA : At w F (Star (MgrA m n lim ns) B) w1) (hw : Wf n ns) (hb : Bnd n lim ns) (hf : Ref ns f) :
    Calls Try.prog 40 [.pointer (some ⟨m, 0, none⟩), .int .i64 (f : Nat), .int .i64 most].toArray w1 fun e w' => ∃ x, e = .returned x ∧ CbPost m n lim most ns f B w F x w' := by
  refine enter Try.func40 mixed low40 (Nat.le_of_ble_eq_true rfl) ?_
  simp only [L40]
  have hl : Lcl (Star (MgrA m n lim ns) B) := Lcl.mgr.star hB
  simp [rowOf]
  refine cl_of (check_lit [(f : Int)] (MgrA.rd hA) hb rfl (by simp) rfl) ?_
  rintro u w2 ⟨rfl, k2⟩
  have h2 := hA.kp0 hl k2
  have hr : [(f : Int)].all (refB ns) = true := by
    unfold Ref at hf
    simp [refB]; omega
  rw [hr]
  simp [chkV]
  have h3 := At.nil (E := 77) (sz := 2) (enc := fv) hl h2
  have h4 := LLA.nil (E := 75) (enc := fv) (Lcl.own.star hl) h3
  have hp := two_mono (show n - tv n ns f ≤ 18 by omega)
  refine cl_of (cubes_aux m n lim most ns hw hb w F f f [] [] _ _ B _ hB hf (Nat.le_refl _) (by simp) (by simp; omega) h4) ?_
  rintro _ w6 (⟨ok, ov1, rfl, h6⟩ | ⟨ok, x, rfl, h6⟩)
  · simp
    exact .inl ⟨ok, ov1, rfl, by simpa using h6.by (Imp.un Imp.dr)⟩
  · simp
    exact .inr ⟨ok, rfl, h6.by Imp.dr⟩
end Go.Proofs.YtkojilpjpdpmaaaR
