/-
  A part of the proof of this claim's statement (LmXD, LmXE, LmXF): plain theorems; no conditions beyond those each names.
-/
import Derived.Test.YtcplpogmbacnfaaPk20
section
set_option maxRecDepth 100000
set_option linter.unusedSimpArgs false
set_option linter.unusedVariables false
namespace Go.Lm
open Go.Rx
theorem arcs_app {U U' : List Un} {V : Nat → Nat} : arcs (U ++ U') V = arcs U V ++ arcs U' V := by
  unfold arcs
  rw [List.filter_append, List.map_append]
theorem gst_dedup {V : Nat → Nat} {l : List Nat} : gst V (dedup l) = gst V l := gst_set fun x => dedup_mem
end Go.Lm
namespace Go.Proofs.Ytcplpogmbacnfaa
open Go Go.W Go.Tk Go.Rx Go.Lm Go.Maps
theorem arcs_one {T : Nt} {c : Nat → Nat} {V : Nat → Nat} {o : No} {i j : Nat} {e : Nf} (he : o.effs[j]? = some e) : arcs [unA T.vars o i (c i) j] V = if grF T.vars V (o.pre ++ e.cnd) < Inf then [⟨gst V ((o.pre ++ e.cnd).map (numF T.vars)), numF T.vars (e.v, e.x), i⟩] else [] := by
  rw [unA_at he]
  have e1 : gr V (dedup ((o.pre ++ e.cnd).map (numF T.vars))) = grF T.vars V (o.pre ++ e.cnd) := by rw [gr_dedup]; rfl
  by_cases h : grF T.vars V (o.pre ++ e.cnd) < Inf
  · rw [if_pos h]
    unfold arcs
    rw [List.filter_cons_of_pos (by simp only [e1]; exact decide_eq_true h)]
    simp only [List.filter_nil, List.map_cons, List.map_nil, arU, gst_dedup]
  · rw [if_neg h]
    unfold arcs
    rw [List.filter_cons_of_neg (by simp only [e1, decide_eq_false h]; simp)]
    rfl
def RcsOk (vars : List Nat) (n : Nat) (rs : List Rc) : Prop := ∀ r ∈ rs, RcOk vars r ∧ r.op < n
/-- The arcs so far. -/
def AaR (T : Nt) (V : Nat → Nat) (U : List Un) (n : Nat) (rs : List Rc) : Prop := rs.map (rcA T.vars) = arcs U V ∧ RcsOk T.vars T.ops.length rs ∧ rs.length ≤ n
theorem AaR.more {T : Nt} {V : Nat → Nat} {U U' : List Un} {n : Nat} {rs rs' : List Rc} (h : AaR T V U n rs) (e : rs'.map (rcA T.vars) = arcs U' V) (hr : RcsOk T.vars T.ops.length rs') (hl : rs'.length ≤ 1) : AaR T V (U ++ U') (n + 1) (rs ++ rs') := by
  refine ⟨by rw [List.map_append, arcs_app, h.1, e], fun r hm => ?_, by rw [List.length_append]; have := h.2.2; omega⟩
  rcases List.mem_append.1 hm with h1 | h1
  · exact h.2.1 r h1
  · exact hr r h1
set_option maxHeartbeats 2000000 in
theorem carcs_spec {w : World} (T : Nt) (tv : Value) (V c : Nat → Nat) (hr : NtR w T) (hg : NtG T) (hV : ∀ f, V f ≤ Inf) (ht : LLV iE w tv (tbI T.vars fun f => (V f : Int))) :
    Calls Try.prog 38 [ntV T, tv].toArray w fun e w' => ∃ u, e = .returned u ∧ ∃ rs, rs.map (rcA T.vars) = arcs (uns T c) V ∧ RcsOk T.vars T.ops.length rs ∧ rs.length ≤ 300000 ∧ Nw w w' u 87 6 rcE rs := by
  refine enter Try.func38 mixed low38 (Nat.le_of_ble_eq_true rfl) ?_
  simp only [L38]
  have hol := hg.olen
  have hvl := hg.vlen
  obtain ⟨b, hb⟩ : ∃ b, b = w.heap.size := ⟨_, rfl⟩
  obtain ⟨w1, hw1⟩ : ∃ w1, w1 = w.alloc (ntO T) := ⟨_, rfl⟩
  have k1 : Kp [] w w1 := by rw [hw1]; exact (Kp.refl [] w).alloc _
  have hw1' : w.alloc (.cells #[T.vv.1, T.nv.1, T.gv.1, T.ov.1] 26 (0, 0)) = w1 := by rw [hw1]; rfl
  have hob : w1.heap[b]? = some (.cells #[T.vv.1, T.nv.1, T.gv.1, T.ov.1] 26 (0, 0)) := by rw [hb, hw1]; exact alloc_new
  have hr1 := hr.kp k1
  have ht1 := ht.kp k1
  have h0 : At w [] Emp w1 := by rw [hw1]; exact ((At.start rfl : At w [] Emp w).alloc (ntO T) .emp).by Imp.dr
  have h1 := h0.nil (E := 87) (sz := 6) (enc := rcE) .emp
  simp [ntV, ← hb, hw1', cell_blk hob, hr1.ops.len]
  refine range_loop (n := T.ops.length) (by omega) (fun i ρ w' => ρ 1 = tv ∧ ρ 13 = T.ov.1 ∧ ∃ rs, AaR T V (unsK T c i) (64 * i) rs ∧ At w [] (Star (OwnA (ρ 5) 87 6 rcE rs) Emp) w') (by simp) (by simp)
    ⟨by simp, by simp, [], ⟨by simp [unsK, arcs], by unfold RcsOk; simp, by simp⟩, by simpa using h1⟩ (by decide) (fun _ _ _ _ h => by simpa using h) (fun _ _ _ _ h => by simpa using h) ?_ ?_
  rotate_left
  · rintro ρ w2 ⟨g1, g13, rs, hA, h2⟩
    simp
    exact ⟨rs, hA.1, hA.2.1, by have := hA.2.2; omega, Nw.of h2⟩
  rintro i ρ w2 hi hci hli ⟨g1, g13, rs, hA, h2⟩
  obtain ⟨o, ho⟩ : ∃ o, T.ops[i]? = some o := ⟨_, List.getElem?_eq_getElem hi⟩
  have hom := List.mem_of_getElem? ho
  have hgo := hg.ops o hom
  have hr2 := hr.kp h2.kp
  have ec := hr2.ops.cells noE_len ho
  simp only [noE] at ec
  have hii : (i : Int) < T.ops.length := by omega
  obtain ⟨ob, hob2⟩ : ∃ ob, ob = w2.heap.size := ⟨_, rfl⟩
  obtain ⟨av, hav⟩ : ∃ av, ρ 5 = av := ⟨_, rfl⟩
  rw [hav] at h2
  simp (disch := omega) [g13, hci, hli, hr2.ops.idx, ec, ← hob2]
  refine st_oq (o := o.raw) (Lcl.own.star .emp) h2 hob2 fun w3 h3 => ?_
  have ho3 := h3.obj
  unfold oqO No.raw at ho3
  have hro3 := (hr.kp h3.kp).op o hom
  have helen := hgo.elen
  have hsuc := unsK_succ (cost := c) ho
  simp [← hob2, cell_blk ho3, hro3.effs.len]
  refine range_loop (n := o.effs.length) (by omega) (fun j ρ w' => ρ 1 = tv ∧ ρ 13 = T.ov.1 ∧ ρ 14 = .int .i64 (T.ops.length : Nat) ∧ ρ 15 = .int .i64 (i : Nat) ∧ ρ 6 = .int .i64 (i : Nat) ∧ ρ 7 = .pointer (some ⟨ob, 0, none⟩) ∧ ρ 21 = o.ev.1 ∧ ∃ rs, AaR T V (unsK T c i ++ opU T.vars o i (c i) j) (64 * i + j) rs ∧ At w [] (Star (OwnA (ρ 5) 87 6 rcE rs) (Star (ObjA ob (oqO o.raw)) Emp)) w') (by simp) (by simp)
    ⟨by simp [g1], by simp [g13], by simp [hli], by simp [hci], by simp [hci], by simp [hob2], by simp, rs, by simpa [opU] using hA, by simpa [hav] using h3.by Imp.sw⟩ (by decide) (fun _ _ _ _ h => by simpa using h) (fun _ _ _ _ h => by simpa using h) ?_ ?_
  rotate_left
  · clear g1 g13 hci hli hav
    rintro ρ w4 ⟨g1, g13, g14, g15, g6, g7, g21, rs2, hA2, h4⟩
    simp [g1, g13, g14, g15]
    refine ⟨rs2, ?_, h4.by (Imp.un Imp.dr)⟩
    rw [hsuc]
    exact ⟨hA2.1, hA2.2.1, by have := hA2.2.2; omega⟩
  clear g1 g13 hci hli hav
  rintro j ρ w4 hj hcj hlj ⟨g1, g13, g14, g15, g6, g7, g21, rs2, hA2, h4⟩
  obtain ⟨e, he⟩ : ∃ e, o.effs[j]? = some e := ⟨_, List.getElem?_eq_getElem hj⟩
  have hem := List.mem_of_getElem? he
  obtain ⟨av, hav⟩ : ∃ av, ρ 5 = av := ⟨_, rfl⟩
  rw [hav] at h4
  have hro4 := (hr.kp h4.kp).op o hom
  have ece := hro4.effs.cells nfE_len he
  simp only [nfE] at ece
  have hji : (j : Int) < o.effs.length := by omega
  obtain ⟨fb, hfb⟩ : ∃ fb, fb = w4.heap.size := ⟨_, rfl⟩
  have hLX : Lcl (Star (OwnA av 87 6 rcE rs2) (Star (ObjA ob (oqO o.raw)) Emp)) := Lcl.own.star (Lcl.obj.star .emp)
  simp (disch := omega) [g21, hcj, hlj, hro4.effs.idx, ece, ← hfb]
  refine st_ef (e := e.raw) hLX h4 hfb fun w5 h5 => ?_
  have oe5 := h5.obj
  unfold efO Nf.raw at oe5
  have ro5 := rd_oq h5.drop.drop.obj
  have hgp := hgo.pre
  have hgc := hgo.cnd e hem
  have hpl := hgp.len
  have hcl2 := hgc.len
  have hrng : FcRng T.vars (o.pre ++ e.cnd) := fun f hf => by
    rcases List.mem_append.1 hf with h | h
    · exact hgp.rng f h
    · exact hgc.rng f h
  have hll : (o.pre ++ e.cnd).length ≤ 1000000 := by rw [List.length_append]; omega
  have hsu : unsK T c i ++ opU T.vars o i (c i) (j + 1) = (unsK T c i ++ opU T.vars o i (c i) j) ++ [unA T.vars o i (c i) j] := by rw [opU_succ, List.append_assoc]
  have hone := arcs_one (T := T) (c := c) (V := V) (i := i) he
  simp [g7, ro5, No.raw, hcj]
  refine cl_of (needs_spec o j e ((hr.kp h5.kp).op o hom) he (by omega) (by omega)) ?_
  rintro nv w6 n6
  have h6 := At.nw (Lcl.obj.star hLX) h5 n6
  have oe6 := h6.drop.obj
  unfold efO Nf.raw at oe6
  obtain ⟨xb, hxb⟩ : ∃ xb, xb = w6.heap.size := ⟨_, rfl⟩
  simp [← hfb, cell_blk oe6, ← hxb]
  refine st_fa (f := (faN (e.v, e.x))) (Lcl.own.star (Lcl.obj.star hLX)) h6 hxb fun w7 h7 => ?_
  have ox7 := h7.obj
  simp only [faO, faN] at ox7
  have hnv7 := h7.drop.own.vw
  have cx : cellsAt w7 ⟨xb, 0, none⟩ 0 2 = some [.int .i64 (e.v : Nat), .int .i64 (e.x : Nat)] := by simp [cellsAt, Addr.add, cell_blk ox7]
  obtain ⟨hf1, hf2⟩ := hgo.eff e hem
  have h7b : At w [] (Star (OwnA av 87 6 rcE rs2) (Star (ObjA ob (oqO o.raw)) Emp)) w7 := ((h7.by Imp.dr).by Imp.dr).by Imp.dr
  have hrl := hA2.2.2
  by_cases hz : (o.pre ++ e.cnd).length = 0
  · have hz2 : o.pre ++ e.cnd = [] := List.length_eq_zero_iff.1 hz
    have hgz : grF T.vars V (o.pre ++ e.cnd) = 0 := by rw [hz2]; rfl
    simp [hnv7.len, hz, hav, g6, ← hxb, cx, rowOf]
    have h8 := h7b.kp0 hLX ((Kp.refl [] w7).alloc (.cells #[.bool true, .int .i64 0, .int .i64 0, .int .i64 (e.v : Nat), .int .i64 (e.x : Nat), .int .i64 (i : Nat)] 87))
    refine At.append (xs := [(⟨true, (0, 0), (e.v, e.x), i⟩ : Rc)]) (Lcl.obj.star .emp) h8 rcE_len rcE_one sl_81 rfl (fun j u hj => ?_) (by omega) (by unfold maxLen; omega) fun v' w9 h9 => ?_
    · rw [add_none, cell_blk alloc_new]
      simpa [rcE] using hj
    simp [g1, g13, g14, g15, g6, g7, g21, hcj, hlj]
    refine ⟨_, ?_, h9⟩
    rw [hsu]
    refine hA2.more ?_ ?_ (by simp)
    · rw [hone, hgz, if_pos (by unfold Inf; omega), hz2]
      rfl
    · intro r hm
      simp at hm
      subst hm
      exact ⟨⟨⟨hf1, hf2⟩, fun h => by cases h⟩, hi⟩
  · have hz3 : o.pre ++ e.cnd ≠ [] := fun h => hz (by rw [h]; rfl)
    have hzi : (((o.pre ++ e.cnd).length : Int) == 0) = false := by simp only [beq_eq_false_iff_ne, ne_eq]; omega
    have hzi2 : ¬ (((o.pre ++ e.cnd).length : Nat) : Int) = 0 := by omega
    have hzi3 : ((o.pre.length : Int) + (e.cnd.length : Int) == 0) = false := by
      simp only [beq_eq_false_iff_ne, ne_eq]
      rw [List.length_append] at hz
      omega
    have hzi4 : ¬ (o.pre.length : Int) + (e.cnd.length : Int) = 0 := by
      rw [List.length_append] at hz
      omega
    have hzi5 : ¬ (o.pre = [] ∧ e.cnd = []) := fun h => hz3 (by rw [h.1, h.2]; rfl)
    simp [hnv7.len, hzi3, hzi4, hzi5, hav, g1, ← hxb]
    refine cl_of (greatest_spec tv nv T.vars V _ (ht.kp h7.kp) hnv7 hll hrng) ?_
    rintro _ w8 ⟨rfl, k8⟩
    have h8 := h7b.kp0 hLX k8
    have k78 := h7.kp.trans k8
    obtain ⟨m, hm⟩ : ∃ m, m = grF T.vars V (o.pre ++ e.cnd) := ⟨_, rfl⟩
    rw [← hm] at hone ⊢
    by_cases hlt : m < Inf
    · have hlt' : (m : Int) < 1125899906842624 := by unfold Inf at hlt; omega
      have k8d := (Kp.refl [] w8).drew
      have h8d := h8.drew hLX
      have cx8 : ∀ {w'}, Kp [] w8 w' → cellsAt w' ⟨xb, 0, none⟩ 0 2 = some [.int .i64 (e.v : Nat), .int .i64 (e.x : Nat)] := fun k => by simp [cellsAt, Addr.add, cell_blk ((k8.trans k).blk ox7 (by simp))]
      simp [hlt', hav, g1, ← hxb, cx8 k8d]
      refine ⟨?_, ?_⟩ <;>
      · refine cl_of (cgreatest_spec tv nv T.vars V _ (ht.kp (k78.trans k8d)) (hnv7.kp0 (k8.trans k8d)) hll hrng hz3) ?_
        rintro _ w9 ⟨f, hfm, rfl, hgs, k9⟩
        have h9 := h8d.kp0 hLX k9
        simp [faV, faN, hav, g6, ← hxb, cx8 (k8d.trans k9), rowOf]
        have h10 := h9.kp0 hLX ((Kp.refl [] w9).alloc (.cells #[.bool false, .int .i64 (f.1 : Nat), .int .i64 (f.2 : Nat), .int .i64 (e.v : Nat), .int .i64 (e.x : Nat), .int .i64 (i : Nat)] 87))
        refine At.append (xs := [(⟨false, f, (e.v, e.x), i⟩ : Rc)]) (Lcl.obj.star .emp) h10 rcE_len rcE_one sl_81 rfl (fun j u hj => ?_) (by omega) (by unfold maxLen; omega) fun v' w11 h11 => ?_
        · rw [add_none, cell_blk alloc_new]
          simpa [rcE] using hj
        simp [g1, g13, g14, g15, g6, g7, g21, hcj, hlj]
        refine ⟨_, ?_, h11⟩
        rw [hsu]
        refine hA2.more ?_ ?_ (by simp)
        · rw [hone, if_pos hlt, hgs]
          rfl
        · intro r hr2
          simp at hr2
          subst hr2
          exact ⟨⟨⟨hf1, hf2⟩, fun _ => hrng f hfm⟩, hi⟩
    · have hlt' : ¬ (m : Int) < 1125899906842624 := by unfold Inf at hlt; omega
      simp [hlt', g1, g13, g14, g15, g6, g7, g21, hcj, hlj, hav]
      refine ⟨_, ?_, h8⟩
      rw [hsu]
      have := hA2.more (rs' := []) (by rw [hone, if_neg hlt]; rfl) (by unfold RcsOk; simp) (by simp)
      rwa [List.append_nil] at this
end Go.Proofs.Ytcplpogmbacnfaa
end
section
set_option maxRecDepth 100000
set_option linter.unusedSimpArgs false
set_option linter.unusedVariables false
namespace Go.Proofs.Ytcplpogmbacnfaa
open Go Go.W Go.Tk Go.Rx Go.Lm Go.Maps
def rcOb (r : Rc) : Obj := .cells #[.bool r.st, .int .i64 (r.fr.1 : Nat), .int .i64 (r.fr.2 : Nat), .int .i64 (r.to.1 : Nat), .int .i64 (r.to.2 : Nat), .int .i64 (r.op : Nat)] 87 (0, 0)
theorem st_rc {wa w : World} {F : List Nat} {X : Asr} {KW : Kont World} {r : Rc} {b : Nat} (hX : Lcl X) (h : At w F X wa) (hb : b = wa.heap.size) (H : ∀ w2, At w F (Star (ObjA b (rcOb r)) X) w2 → KW.run w2) :
    @stJ (wa.alloc (.cells #[.bool false, .int .i64 0, .int .i64 0, .int .i64 0, .int .i64 0, .int .i64 0] 87 (0, 0))) ⟨b, 0, none⟩ [.bool r.st, .int .i64 (r.fr.1 : Nat), .int .i64 (r.fr.2 : Nat), .int .i64 (r.to.1 : Nat), .int .i64 (r.to.2 : Nat), .int .i64 (r.op : Nat)] KW := by
  have h1 : At w F (Star (ObjA b (.cells #[.bool false, .int .i64 0, .int .i64 0, .int .i64 0, .int .i64 0, .int .i64 0] 87 (0, 0))) X) (wa.alloc (.cells #[.bool false, .int .i64 0, .int .i64 0, .int .i64 0, .int .i64 0, .int .i64 0] 87 (0, 0))) := by rw [hb]; exact h.alloc _ hX
  exact h1.st hX (by simp) (by simp) fun w2 h2 => H w2 (by simpa [rcOb] using h2)
/-- The cells of an arc. -/
structure RcAt (w : World) (b : Nat) (r : Rc) : Prop where
  c0 : w.cell? ⟨b, 0, none⟩ = some (.bool r.st)
  fr : cellsAt w ⟨b, 1, none⟩ 0 2 = some [.int .i64 (r.fr.1 : Nat), .int .i64 (r.fr.2 : Nat)]
  to : cellsAt w ⟨b, 3, none⟩ 0 2 = some [.int .i64 (r.to.1 : Nat), .int .i64 (r.to.2 : Nat)]
  op : w.cell? ⟨b, 5, none⟩ = some (.int .i64 (r.op : Nat))
theorem rc_at {w : World} {b : Nat} {r : Rc} (h : w.heap[b]? = some (rcOb r)) : RcAt w b r := by
  unfold rcOb at h
  exact ⟨by simp [cell_blk h], by simp [cellsAt, Addr.add, cell_blk h], by simp [cellsAt, Addr.add, cell_blk h], by simp [cell_blk h]⟩
theorem eq_fc (x f : Fc) : ((x.1 : Int) == (f.1 : Nat) && (x.2 : Int) == (f.2 : Nat)) = decide (x = f) := by
  obtain ⟨x1, x2⟩ := x
  obtain ⟨f1, f2⟩ := f
  rw [Bool.eq_iff_iff]
  simp only [Bool.and_eq_true, beq_iff_eq, decide_eq_true_eq, Prod.mk.injEq]
  omega
/-- Facts without repetition are few. -/
theorem fc_few {vars : List Nat} {zs : List Fc} (hn : zs.Nodup) (hr : FcRng vars zs) : zs.length ≤ vars.sum := by
  have h1 : (zs.map (numF vars)).Nodup := by
    refine List.Pairwise.map _ (R := fun a b => a ≠ b ∧ a ∈ zs ∧ b ∈ zs) (fun a b h e => ?_) ?_
    · obtain ⟨a1, a2⟩ := hr a h.2.1
      obtain ⟨b1, b2⟩ := hr b h.2.2
      exact h.1 (numF_inj a1 a2 b1 b2 e)
    · exact (List.Pairwise.and_mem.1 hn).imp fun h => ⟨h.2.2, h.1, h.2.1⟩
  have h2 := (List.nodup_range (n := vars.sum))
  have h3 : (zs.map (numF vars)).length ≤ (List.range vars.sum).length := h1.length_le_of_subset fun x hx => by
    obtain ⟨f, hf, rfl⟩ := List.mem_map.1 hx
    obtain ⟨a, b⟩ := hr f hf
    exact List.mem_range.2 (numF_lt a b)
  simpa using h3
/-- The goal zone, so far. -/
structure Gz (vars : List Nat) (rs : List Rc) (left : List Nat) (g : Fc) (i : Nat) (zs : List Fc) : Prop where
  nd : zs.Nodup
  rng : FcRng vars zs
  sound : ∀ f ∈ zs, TZ (rs.map (rcA vars)) (cf left) (numF vars g) (numF vars f)
  has : g ∈ zs
  le : i ≤ zs.length
  clo : ∀ a ∈ rs, a.st = false → a.to ∈ zs.take i → cf left a.op = 0 → a.fr ∈ zs
structure GzJ (vars : List Nat) (rs : List Rc) (left : List Nat) (g : Fc) (i j : Nat) (z : Fc) (zs : List Fc) : Prop where
  b : Gz vars rs left g i zs
  at_ : zs[i]? = some z
  cj : ∀ a ∈ rs.take j, a.st = false → a.to = z → cf left a.op = 0 → a.fr ∈ zs
theorem Gz.all {vars : List Nat} {rs : List Rc} {left : List Nat} {g : Fc} {i : Nat} {zs : List Fc} {n : Nat} (h : Gz vars rs left g i zs) (hi : zs.length ≤ i) (hr : RcsOk vars n rs) (x : Nat) : TZ (rs.map (rcA vars)) (cf left) (numF vars g) x ↔ x ∈ zs.map (numF vars) := by
  constructor
  · intro hx
    induction hx with
    | base => exact List.mem_map.2 ⟨g, h.has, rfl⟩
    | step ha hf hc ht ih =>
      obtain ⟨r, hr1, rfl⟩ := List.mem_map.1 ha
      obtain ⟨f, hfz, e⟩ := List.mem_map.1 ih
      have hst : r.st = false := by
        cases hs : r.st with
        | false => rfl
        | true => unfold rcA at hf; simp [hs] at hf
      have hok := (hr r hr1).1
      obtain ⟨t1, t2⟩ := hok.1
      obtain ⟨f1, f2⟩ := h.rng f hfz
      have hto : f = r.to := numF_inj f1 f2 t1 t2 e
      subst hto
      have := h.clo r hr1 hst (by rw [List.take_of_length_le hi]; exact hfz) hc
      have e2 : (rcA vars r).fr = some (numF vars r.fr) := by unfold rcA; simp [hst]
      rw [e2] at hf
      cases hf
      exact List.mem_map.2 ⟨_, this, rfl⟩
  · intro hx
    obtain ⟨f, hf, rfl⟩ := List.mem_map.1 hx
    exact h.sound f hf
theorem GzJ.next {vars : List Nat} {rs : List Rc} {left : List Nat} {g : Fc} {i : Nat} {z : Fc} {zs : List Fc} (h : GzJ vars rs left g i rs.length z zs) : Gz vars rs left g (i + 1) zs := by
  have hi := (List.getElem?_eq_some_iff.1 h.at_).1
  refine ⟨h.b.nd, h.b.rng, h.b.sound, h.b.has, hi, fun a ha hs ht hc => ?_⟩
  rw [take_snoc h.at_] at ht
  rcases List.mem_append.1 ht with h1 | h1
  · exact h.b.clo a ha hs h1 hc
  · simp at h1
    exact h.cj a (by rw [List.take_length]; exact ha) hs h1 hc
theorem GzJ.keep {vars : List Nat} {rs : List Rc} {left : List Nat} {g : Fc} {i j : Nat} {z : Fc} {zs : List Fc} {a : Rc} (h : GzJ vars rs left g i j z zs) (ha : rs[j]? = some a) (hn : a.st = false → a.to = z → cf left a.op = 0 → a.fr ∈ zs) : GzJ vars rs left g i (j + 1) z zs := by
  refine ⟨h.b, h.at_, fun b hb => ?_⟩
  rw [take_snoc ha] at hb
  rcases List.mem_append.1 hb with h1 | h1
  · exact h.cj b h1
  · simp at h1
    subst h1
    exact hn
theorem GzJ.add {vars : List Nat} {rs : List Rc} {left : List Nat} {g : Fc} {i j : Nat} {z : Fc} {zs : List Fc} {a : Rc} {n : Nat} (h : GzJ vars rs left g i j z zs) (hr : RcsOk vars n rs) (ha : rs[j]? = some a) (hs : a.st = false) (ht : a.to = z) (hc : cf left a.op = 0) (hn : a.fr ∉ zs) : GzJ vars rs left g i (j + 1) z (zs ++ [a.fr]) := by
  have hi := (List.getElem?_eq_some_iff.1 h.at_).1
  have ham := List.mem_of_getElem? ha
  have hsub : ∀ x, x ∈ zs → x ∈ zs ++ [a.fr] := fun x hx => List.mem_append.2 (.inl hx)
  refine ⟨⟨?_, fun f hf => ?_, fun f hf => ?_, hsub _ h.b.has, by rw [List.length_append]; have := h.b.le; omega, fun b hb hbs hbt hbc => ?_⟩, by rw [List.getElem?_append_left hi]; exact h.at_, fun b hb hbs hbt hbc => ?_⟩
  · refine List.nodup_append.2 ⟨h.b.nd, by simp, fun x hx y hy e => ?_⟩
    simp at hy
    subst hy
    subst e
    exact hn hx
  · rcases List.mem_append.1 hf with h1 | h1
    · exact h.b.rng f h1
    · simp at h1; subst h1
      exact (hr a ham).1.2 hs
  · rcases List.mem_append.1 hf with h1 | h1
    · exact h.b.sound f h1
    · simp at h1; subst h1
      have hz : z ∈ zs := List.mem_of_getElem? h.at_
      refine .step (a := rcA vars a) (List.mem_map.2 ⟨a, ham, rfl⟩) (by unfold rcA; simp [hs]) hc ?_
      have := h.b.sound z hz
      unfold rcA
      rw [ht]
      exact this
  · rw [List.take_append_of_le_length h.b.le] at hbt
    exact hsub _ (h.b.clo b hb hbs hbt hbc)
  · rw [take_snoc ha] at hb
    rcases List.mem_append.1 hb with h1 | h1
    · exact hsub _ (h.cj b h1 hbs hbt hbc)
    · simp at h1; subst h1
      simp
theorem Gz.one {vars : List Nat} {rs : List Rc} {left : List Nat} {g : Fc} (h1 : g.1 < vars.length) (h2 : g.2 < vars.getD g.1 0) : Gz vars rs left g 0 [g] := {
  nd := by simp
  rng := fun f hf => by simp at hf; subst hf; exact ⟨h1, h2⟩
  sound := fun f hf => by simp at hf; subst hf; exact .base
  has := by simp
  le := by simp
  clo := fun a _ _ h => by simp at h }
/-- A zone as a list of facts. -/
def ZsP (vars : List Nat) (P : Nat → Prop) (zs : List Fc) : Prop := ∀ x, P x ↔ x ∈ zs.map (numF vars)
/-- The loop over the zone. -/
def GzI (vars : List Nat) (rs : List Rc) (left : List Nat) (g : Fc) (av lv : Value) (w0 : World) (n : Nat) (ρ : Env) (w' : World) : Prop :=
  ρ 0 = av ∧ ρ 1 = lv ∧ ∃ i zs, n = 5000 - i ∧ ρ 8 = .int .i64 (i : Nat) ∧ Gz vars rs left g i zs ∧ At w0 [] (Star (OwnA (ρ 7) 58 2 fcE zs) Emp) w'
def GzL (vars : List Nat) (rs : List Rc) (left : List Nat) (g : Fc) (i : Nat) (z : Fc) (av lv : Value) (w0 : World) (j : Nat) (ρ : Env) (w' : World) : Prop :=
  ρ 0 = av ∧ ρ 1 = lv ∧ ρ 8 = .int .i64 (i : Nat) ∧ ρ 19 = av ∧ ∃ zs, GzJ vars rs left g i j z zs ∧ At w0 [] (Star (OwnA (ρ 7) 58 2 fcE zs) Emp) w'
set_option maxHeartbeats 2000000 in
theorem cgoals_spec {w : World} (vars : List Nat) (av lv : Value) (rs : List Rc) (left : List Nat) (g : Fc) (n : Nat) (ha : Vw w av rcE rs) (hlv : Vw w lv nE left) (hr : RcsOk vars n rs) (hn : n = left.length) (hrl : rs.length ≤ 300000) (hs : vars.sum ≤ 4096) (g1 : g.1 < vars.length) (g2 : g.2 < vars.getD g.1 0) :
    Calls Try.prog 39 [av, lv, faV (faN g)].toArray w fun e w' => ∃ u, e = .returned u ∧ ∃ zs, FcRng vars zs ∧ zs.length ≤ 4096 ∧ ZsP vars (TZ (rs.map (rcA vars)) (cf left) (numF vars g)) zs ∧ Nw w w' u 58 2 fcE zs := by
  refine enter Try.func39 mixed low39 (Nat.le_of_ble_eq_true rfl) ?_
  simp only [L39]
  obtain ⟨gb, hgb⟩ : ∃ gb, gb = w.heap.size := ⟨_, rfl⟩
  have h1 : At w [] (Star (ObjA gb (faO (faN g))) Emp) (w.alloc (faO (faN g))) := by rw [hgb]; exact (At.start rfl).alloc _ .emp
  obtain ⟨w1, hw1⟩ : ∃ w1, w1 = w.alloc (faO (faN g)) := ⟨_, rfl⟩
  rw [← hw1] at h1
  have hw1' : w.alloc (.cells #[.int .i64 (g.1 : Nat), .int .i64 (g.2 : Nat)] 58 (0, 0)) = w1 := by rw [hw1]; rfl
  have og := h1.obj
  simp only [faO, faN] at og
  have cg : cellsAt w1 ⟨gb, 0, none⟩ 0 2 = some [.int .i64 (g.1 : Nat), .int .i64 (g.2 : Nat)] := by simp [cellsAt, Addr.add, cell_blk og]
  have h2 := h1.lit (xs := [g]) (enc := fcE) (E := 58) (sz := 2) (cs := #[.int .i64 (g.1 : Nat), .int .i64 (g.2 : Nat)]) (m := 1) (Lcl.obj.star .emp) (by simp [fcE]) fcE_len (by simp [maxLen]) rfl
  simp [faV, faN, ← hgb, hw1', cg, rowOf]
  refine loop_inv (GzI vars rs left g av lv w) 5000 ⟨by simp, by simp, 0, [g], rfl, by simp, .one g1 g2, by simpa using h2.by (Imp.un Imp.dr)⟩ ?_
  rintro m ρ w2 ⟨e0, e1, i, zs, rfl, e8, hG, h3⟩
  have hfew := fc_few hG.nd hG.rng
  have hil := hG.le
  obtain ⟨zv, hzv⟩ : ∃ zv, ρ 7 = zv := ⟨_, rfl⟩
  rw [hzv] at h3
  by_cases hlt : i < zs.length
  case neg =>
    have hlt' : ¬ (i : Int) < zs.length := by omega
    simp [e8, hzv, h3.own.vw.len, hlt']
    exact ⟨zs, hG.rng, by omega, hG.all (by omega) hr, Nw.of h3⟩
  have hlt' : (i : Int) < zs.length := by omega
  obtain ⟨z, hz⟩ : ∃ z, zs[i]? = some z := ⟨_, List.getElem?_eq_getElem hlt⟩
  have ha2 := ha.kp0 h3.kp
  simp [e8, hzv, h3.own.vw.len, hlt', e0, ha2.len]
  refine range_loop (n := rs.length) (by omega) (GzL vars rs left g i z av lv w) (by simp) (by simp)
    ⟨by simp [e0], by simp [e1], by simp [e8], by simp, zs, ⟨hG, hz, by simp⟩, by simpa [hzv] using h3⟩ (by decide) (fun _ _ _ _ h => by unfold GzL at h ⊢; simpa using h) (fun _ _ _ _ h => by unfold GzL at h ⊢; simpa using h) ?_ ?_
  rotate_left
  · clear e0 e1 e8 hzv h3
    rintro ρ w3 ⟨e0, e1, e8, e19, zs2, hJ, h4⟩
    obtain ⟨i2, hi2⟩ : ∃ i2, i2 = i + 1 := ⟨_, rfl⟩
    have ei : (i : Int) + 1 = (i2 : Int) := by omega
    simp (disch := omega) [e8, wrap_i64, ei]
    refine ⟨5000 - i2, by omega, by simp [e0], by simp [e1], i2, zs2, rfl, by simp, by rw [hi2]; exact hJ.next, by simpa using h4⟩
  clear e0 e1 e8 hzv h3
  rintro j ρ w3 hj hcj hlj ⟨e0, e1, e8, e19, zs2, hJ, h4⟩
  obtain ⟨a, hja⟩ : ∃ a, rs[j]? = some a := ⟨_, List.getElem?_eq_getElem hj⟩
  have ham := List.mem_of_getElem? hja
  obtain ⟨zv, hzv⟩ : ∃ zv, ρ 7 = zv := ⟨_, rfl⟩
  rw [hzv] at h4
  have ha4 := ha.kp0 h4.kp
  have ec := ha4.cells rcE_len hja
  simp only [rcE] at ec
  have hji : (j : Int) < rs.length := by omega
  obtain ⟨ab, hab⟩ : ∃ ab, ab = w3.heap.size := ⟨_, rfl⟩
  have hLz : Lcl (Star (OwnA zv 58 2 fcE zs2) Emp) := Lcl.own.star .emp
  simp (disch := omega) [e19, hcj, hlj, ha4.idx, ec, ← hab]
  refine st_rc (r := a) hLz h4 hab fun w4 h5 => ?_
  have h5d := h5.drew (Lcl.obj.star hLz)
  have rA := rc_at h5.obj
  have hzv5 := h5.drop.own.vw
  have hl5 := hlv.kp0 h5.kp
  have h5z := h5d.by Imp.dr
  have hfew2 := fc_few hJ.b.nd hJ.b.rng
  have hi2 := (List.getElem?_eq_some_iff.1 hJ.at_).1
  have hi2' : (i : Int) < zs2.length := by omega
  have ez := hzv5.cells fcE_len hJ.at_
  simp only [fcE] at ez
  have hopl : a.op < left.length := by rw [← hn]; exact (hr a ham).2
  obtain ⟨x, hx⟩ : ∃ x, left[a.op]? = some x := ⟨_, List.getElem?_eq_getElem hopl⟩
  have hxc : cf left a.op = x := by unfold cf; simp [List.getD, hx]
  have hopi : (a.op : Int) < left.length := by omega
  have fin : ∀ {b : Bool}, True := fun {b} => trivial
  cases hst : a.st with
  | true =>
    have c0 := rA.c0
    rw [hst] at c0
    simp [← hab, c0, e0, e1, e8, e19, hcj, hlj, hzv]
    unfold GzL
    simp [e0, e1, e8, e19, hzv]
    exact ⟨zs2, hJ.keep hja (fun h => by rw [hst] at h; cases h), h5z⟩
  | false =>
    have c0 := rA.c0
    rw [hst] at c0
    simp (disch := omega) [← hab, c0, e0, e1, e8, hzv, rA.to, hzv5.idx, ez]
    refine rd_mk (v := .bool (decide (a.to = z))) (fun w' _ => by simp only [Sem.run_bind, run_eqGuard_agg w' _ _ _ _ _ _ (by kernel_rfl : Try.prog.eqGuardType Try.prog.depth 58 = false), Result.andThen_ok, run_eql_struct, eq_fact, eq_fc]) ?_
    by_cases hz : a.to = z
    case neg =>
      simp [hz]
      unfold GzL
      simp [e0, e1, e8, e19, hcj, hlj, hzv]
      exact ⟨zs2, hJ.keep hja (fun _ h => absurd h hz), h5z⟩
    by_cases hx0 : x = 0
    case neg =>
      have hx1 : ((x : Int) == 0) = false := by simp; omega
      simp (disch := omega) [hz, e1, rA.op, ← hab, hl5.idx, nE_cell hl5 hx, hx1, hx0]
      unfold GzL
      simp [e0, e1, e8, e19, hcj, hlj, hzv]
      exact ⟨zs2, hJ.keep hja (fun _ _ h => by rw [hxc] at h; exact absurd h hx0), h5z⟩
    simp (disch := omega) [hz, e1, rA.op, ← hab, hl5.idx, nE_cell hl5 hx, hx0, hzv, rA.fr]
    refine cl_of (in_spec zv zs2 a.fr h5d.drop.own.vw (by omega)) ?_
    rintro _ w6 ⟨rfl, k6⟩
    have h6 := h5z.kp0 hLz k6
    have fr6 : cellsAt w6 ⟨ab, 1, none⟩ 0 2 = some [.int .i64 (a.fr.1 : Nat), .int .i64 (a.fr.2 : Nat)] := by
      have := rc_at (k6.blk h5d.obj (by simp))
      exact this.fr
    by_cases hin : a.fr ∈ zs2
    · simp [hin]
      unfold GzL
      simp [e0, e1, e8, e19, hcj, hlj, hzv]
      exact ⟨zs2, hJ.keep hja (fun _ _ _ => hin), h6⟩
    · simp [hin, hzv, ← hab, fr6, rowOf]
      have h7 := h6.kp0 hLz ((Kp.refl [] w6).alloc (.cells #[.int .i64 (a.fr.1 : Nat), .int .i64 (a.fr.2 : Nat)] 58))
      refine At.append (xs := [a.fr]) .emp h7 fcE_len fcE_one sl_23 rfl (fun j u hj => ?_) (by omega) (by unfold maxLen; omega) fun v' w9 h9 => ?_
      · rw [add_none, cell_blk alloc_new]
        simpa [fcE] using hj
      unfold GzL
      simp [e0, e1, e8, e19, hcj, hlj, hzv]
      exact ⟨zs2 ++ [a.fr], hJ.add hr hja hst hz (by rw [hxc]; exact hx0) hin, h9⟩
end Go.Proofs.Ytcplpogmbacnfaa
end
section
set_option maxRecDepth 100000
set_option linter.unusedSimpArgs false
set_option linter.unusedVariables false
namespace Go.Proofs.Ytcplpogmbacnfaa
open Go Go.W Go.Tk Go.Rx Go.Lm Go.Maps
def stF (s : List Nat) (k : Nat) : List Fc := (List.range k).map fun v => (v, s.getD v 0)
theorem stF_succ (s : List Nat) (k : Nat) : stF s (k + 1) = stF s k ++ [(k, s.getD k 0)] := by unfold stF; rw [List.range_succ, List.map_append]; rfl
/-- An arc leads on. -/
def Leads (zs out : List Fc) (a : Rc) : Prop := (a.st = true ∨ a.fr ∈ out) ∧ a.to ∉ zs
/-- The start zone, so far. -/
structure Bz (vars s : List Nat) (rs : List Rc) (zs out : List Fc) : Prop where
  nd : out.Nodup
  rng : FcRng vars out
  sound : ∀ f ∈ out, SZ (rs.map (rcA vars)) (stN vars s vars.length) (fun x => x ∈ zs.map (numF vars)) (numF vars f)
  has : ∀ f ∈ stF s vars.length, f ∈ out
theorem Bz.one {vars s : List Nat} {rs : List Rc} {zs : List Fc} (hst : StN vars s) : Bz vars s rs zs (stF s vars.length) := {
  nd := by
    unfold stF
    refine List.Pairwise.map _ (fun a b h e => ?_) (List.nodup_range (n := vars.length))
    exact h (congrArg Prod.fst e)
  rng := fun f hf => by
    unfold stF at hf
    obtain ⟨v, hv, rfl⟩ := List.mem_map.1 hf
    have hv := List.mem_range.1 hv
    exact ⟨hv, hst.rng v hv⟩
  sound := fun f hf => by
    unfold stF at hf
    obtain ⟨v, hv, rfl⟩ := List.mem_map.1 hf
    refine .base ?_
    unfold stN
    exact List.mem_map.2 ⟨v, hv, rfl⟩
  has := fun f hf => hf }
theorem mem_num {vars : List Nat} {zs : List Fc} {f : Fc} (hz : FcRng vars zs) (h1 : f.1 < vars.length) (h2 : f.2 < vars.getD f.1 0) : numF vars f ∈ zs.map (numF vars) ↔ f ∈ zs := by
  constructor
  · intro h
    obtain ⟨g, hg, e⟩ := List.mem_map.1 h
    obtain ⟨g1, g2⟩ := hz g hg
    rw [← numF_inj g1 g2 h1 h2 e]
    exact hg
  · exact fun h => List.mem_map.2 ⟨f, h, rfl⟩
theorem Bz.add {vars s : List Nat} {rs : List Rc} {zs out : List Fc} {n : Nat} {a : Rc} (h : Bz vars s rs zs out) (hz : FcRng vars zs) (hr : RcsOk vars n rs) (ha : a ∈ rs) (hl : Leads zs out a) (hn : a.to ∉ out) : Bz vars s rs zs (out ++ [a.to]) := {
  nd := by
    refine List.nodup_append.2 ⟨h.nd, by simp, fun x hx y hy e => ?_⟩
    simp at hy
    subst hy
    subst e
    exact hn hx
  rng := fun f hf => by
    rcases List.mem_append.1 hf with h1 | h1
    · exact h.rng f h1
    · simp at h1; subst h1
      exact (hr a ha).1.1
  sound := fun f hf => by
    rcases List.mem_append.1 hf with h1 | h1
    · exact h.sound f h1
    · simp at h1; subst h1
      obtain ⟨t1, t2⟩ := (hr a ha).1.1
      have ht : ¬ numF vars a.to ∈ zs.map (numF vars) := fun hm => hl.2 ((mem_num hz t1 t2).1 hm)
      have hm : rcA vars a ∈ rs.map (rcA vars) := List.mem_map.2 ⟨a, ha, rfl⟩
      cases hs : a.st with
      | true => exact .start (a := rcA vars a) hm (by unfold rcA; simp [hs]) ht
      | false =>
        rcases hl.1 with h2 | h2
        · rw [hs] at h2; cases h2
        · exact .step (a := rcA vars a) (f := numF vars a.fr) hm (by unfold rcA; simp [hs]) (h.sound _ h2) ht
  has := fun f hf => List.mem_append.2 (.inl (h.has f hf)) }
theorem Bz.all {vars s : List Nat} {rs : List Rc} {zs out : List Fc} {n : Nat} {T : Nat → Prop} (h : Bz vars s rs zs out) (hz : FcRng vars zs) (hr : RcsOk vars n rs) (hT : ∀ x, T x ↔ x ∈ zs.map (numF vars)) (hc : ∀ a ∈ rs, Leads zs out a → a.to ∈ out) : ∀ x, SZ (rs.map (rcA vars)) (stN vars s vars.length) T x ↔ x ∈ out.map (numF vars) := fun x => by
  have eT : T = fun x => x ∈ zs.map (numF vars) := by funext x; exact propext (hT x)
  subst eT
  have key : ∀ {a : Ar}, a ∈ rs.map (rcA vars) → ¬ a.to ∈ zs.map (numF vars) → (∀ f, a.fr = some f → f ∈ out.map (numF vars)) → a.to ∈ out.map (numF vars) := fun {a} ha ht hf => by
    obtain ⟨r, hr1, rfl⟩ := List.mem_map.1 ha
    have hok := (hr r hr1).1
    obtain ⟨t1, t2⟩ := hok.1
    refine List.mem_map.2 ⟨r.to, hc r hr1 ⟨?_, fun hm => ht ((mem_num hz t1 t2).2 hm)⟩, rfl⟩
    cases hs : r.st with
    | true => exact .inl rfl
    | false =>
      obtain ⟨f1, f2⟩ := hok.2 hs
      exact .inr ((mem_num h.rng f1 f2).1 (hf _ (by unfold rcA; simp [hs])))
  constructor
  · intro hx
    induction hx with
    | base hf =>
      unfold stN at hf
      obtain ⟨v, hv, rfl⟩ := List.mem_map.1 hf
      exact List.mem_map.2 ⟨(v, s.getD v 0), h.has _ (by unfold stF; exact List.mem_map.2 ⟨v, hv, rfl⟩), rfl⟩
    | start ha hf ht => exact key ha ht fun f e => by rw [hf] at e; cases e
    | step ha hf hs ht ih => exact key ha ht fun f e => by rw [hf] at e; cases e; exact ih
  · intro hx
    obtain ⟨f, hf, rfl⟩ := List.mem_map.1 hx
    exact h.sound f hf
/-- The loop until nothing changes; over the arcs. -/
def BgI (vars s : List Nat) (rs : List Rc) (zs : List Fc) (av zv : Value) (w0 : World) (n : Nat) (ρ : Env) (w' : World) : Prop :=
  ρ 0 = av ∧ ρ 2 = zv ∧ ∃ ch out, ρ 10 = .bool ch ∧ n = (if ch then 5001 - out.length else 0) ∧ Bz vars s rs zs out ∧ (ch = false → ∀ a ∈ rs, Leads zs out a → a.to ∈ out) ∧ At w0 [] (Star (OwnA (ρ 7) 58 2 fcE out) Emp) w'
structure Bj (vars s : List Nat) (rs : List Rc) (zs : List Fc) (s0 j : Nat) (ch : Bool) (out : List Fc) : Prop where
  b : Bz vars s rs zs out
  clo : ch = false → ∀ a ∈ rs.take j, Leads zs out a → a.to ∈ out
  lt : ch = true → s0 < out.length
  le : s0 ≤ out.length
def BgL (vars s : List Nat) (rs : List Rc) (zs : List Fc) (s0 : Nat) (av zv : Value) (w0 : World) (j : Nat) (ρ : Env) (w' : World) : Prop :=
  ρ 0 = av ∧ ρ 2 = zv ∧ ρ 28 = av ∧ ∃ ch out, ρ 10 = .bool ch ∧ Bj vars s rs zs s0 j ch out ∧ At w0 [] (Star (OwnA (ρ 7) 58 2 fcE out) Emp) w'
theorem Bj.keep {vars s : List Nat} {rs : List Rc} {zs : List Fc} {s0 j : Nat} {ch : Bool} {out : List Fc} {a : Rc} (h : Bj vars s rs zs s0 j ch out) (ha : rs[j]? = some a) (hn : Leads zs out a → a.to ∈ out) : Bj vars s rs zs s0 (j + 1) ch out :=
  ⟨h.b, fun hc b hb => by
    rw [take_snoc ha] at hb
    rcases List.mem_append.1 hb with h1 | h1
    · exact h.clo hc b h1
    · simp at h1; subst h1
      exact hn, h.lt, h.le⟩
set_option maxHeartbeats 2000000 in
theorem cbegins_spec {w : World} (vars s : List Nat) (av sv zv : Value) (rs : List Rc) (zs : List Fc) (n : Nat) (T : Nat → Prop) (ha : Vw w av rcE rs) (hsv : Vw w sv nE s) (hst : StN vars s) (hzv : Vw w zv fcE zs) (hz : FcRng vars zs) (hzl : zs.length ≤ 4096) (hr : RcsOk vars n rs) (hrl : rs.length ≤ 300000) (hs : vars.sum ≤ 4096) (hvl : vars.length ≤ 64) (hT : ZsP vars T zs) :
    Calls Try.prog 41 [av, sv, zv].toArray w fun e w' => ∃ u, e = .returned u ∧ ∃ out, FcRng vars out ∧ out.length ≤ 4096 ∧ ZsP vars (SZ (rs.map (rcA vars)) (stN vars s vars.length) T) out ∧ Nw w w' u 58 2 fcE out := by
  refine enter Try.func41 mixed low41 (Nat.le_of_ble_eq_true rfl) ?_
  simp only [L41]
  have hsl := hst.len
  have h1 := (At.start rfl : At w [] Emp w).nil (E := 58) (sz := 2) (enc := fcE) .emp
  simp [hsv.len]
  refine range_loop (n := s.length) (by omega) (fun k ρ w' => ρ 0 = av ∧ ρ 2 = zv ∧ ρ 13 = sv ∧ At w [] (Star (OwnA (ρ 7) 58 2 fcE (stF s k)) Emp) w') (by simp) (by simp)
    ⟨by simp, by simp, by simp, by simpa [stF] using h1⟩ (by decide) (fun _ _ _ _ h => by simpa using h) (fun _ _ _ _ h => by simpa using h) ?_ ?_
  · rintro k ρ w2 hk hck hlk ⟨e0, e2, e13, h2⟩
    obtain ⟨x, hx⟩ : ∃ x, s[k]? = some x := ⟨_, List.getElem?_eq_getElem hk⟩
    have hxd : s.getD k 0 = x := by simp [List.getD, hx]
    have hs2 := hsv.kp0 h2.kp
    have hki : (k : Int) < s.length := by omega
    obtain ⟨ov, hov⟩ : ∃ ov, ρ 7 = ov := ⟨_, rfl⟩
    rw [hov] at h2
    have hfl : (stF s k).length = k := by simp [stF]
    simp (disch := omega) [e13, hck, hlk, hs2.idx, nE_cell hs2 hx, hov, rowOf]
    have h3 := h2.kp0 (Lcl.own.star .emp) ((Kp.refl [] w2).alloc (.cells #[.int .i64 (k : Nat), .int .i64 (x : Nat)] 58))
    refine At.append (xs := [((k, x) : Fc)]) .emp h3 fcE_len fcE_one sl_23 rfl (fun j u hj => ?_) (by omega) (by unfold maxLen; omega) fun v' w9 h9 => ?_
    · rw [add_none, cell_blk alloc_new]
      simpa [fcE] using hj
    simp [e0, e2, e13, hck, hlk]
    rw [stF_succ, hxd]
    exact h9
  rintro ρ w2 ⟨e0, e2, e13, h2⟩
  rw [hsl] at h2
  simp
  refine loop_inv (BgI vars s rs zs av zv w) (5001 - (stF s vars.length).length) ⟨by simp [e0], by simp [e2], true, stF s vars.length, by simp, by simp, .one hst, (fun h => by cases h), by simpa using h2⟩ ?_
  clear e0 e2 e13 h2
  rintro m ρ w3 ⟨e0, e2, ch, out, e10, rfl, hB, hcl, h3⟩
  have hfew := fc_few hB.nd hB.rng
  obtain ⟨ov, hov⟩ : ∃ ov, ρ 7 = ov := ⟨_, rfl⟩
  rw [hov] at h3
  cases ch with
  | false =>
    simp [e10, hov]
    exact ⟨out, hB.rng, by omega, hB.all hz hr hT (hcl rfl), Nw.of h3⟩
  | true =>
    have ha3 := ha.kp0 h3.kp
    simp [e10, e0, ha3.len]
    refine range_loop (n := rs.length) (by omega) (BgL vars s rs zs out.length av zv w) (by simp) (by simp)
      ⟨by simp [e0], by simp [e2], by simp, false, out, by simp, ⟨hB, (fun _ => by simp), (fun h => by cases h), Nat.le_refl _⟩, by simpa [hov] using h3⟩ (by decide) (fun _ _ _ _ h => by unfold BgL at h ⊢; simpa using h) (fun _ _ _ _ h => by unfold BgL at h ⊢; simpa using h) ?_ ?_
    rotate_left
    · clear e0 e2 e10 hov h3
      rintro ρ w4 ⟨e0, e2, e28, ch2, out2, e10, hJ, h4⟩
      have hfew2 := fc_few hJ.b.nd hJ.b.rng
      simp
      refine ⟨_, ?_, e0, e2, ch2, out2, e10, rfl, hJ.b, fun h => by have := hJ.clo h; rwa [List.take_length] at this, h4⟩
      cases ch2 with
      | false => simp; omega
      | true => have := hJ.lt rfl; simp; omega
    clear e0 e2 e10 hov h3
    rintro j ρ w4 hj hcj hlj ⟨e0, e2, e28, ch2, out2, e10, hJ, h4⟩
    obtain ⟨a, hja⟩ : ∃ a, rs[j]? = some a := ⟨_, List.getElem?_eq_getElem hj⟩
    have ham := List.mem_of_getElem? hja
    obtain ⟨ov, hov⟩ : ∃ ov, ρ 7 = ov := ⟨_, rfl⟩
    rw [hov] at h4
    have ha4 := ha.kp0 h4.kp
    have ec := ha4.cells rcE_len hja
    simp only [rcE] at ec
    have hji : (j : Int) < rs.length := by omega
    have hfew2 := fc_few hJ.b.nd hJ.b.rng
    have hle0 : out.length ≤ out2.length := hJ.le
    obtain ⟨ab, hab⟩ : ∃ ab, ab = w4.heap.size := ⟨_, rfl⟩
    have hLz : Lcl (Star (OwnA ov 58 2 fcE out2) Emp) := Lcl.own.star .emp
    simp (disch := omega) [e28, hcj, hlj, ha4.idx, ec, ← hab]
    refine st_rc (r := a) hLz h4 hab fun w5 h5 => ?_
    have rA := rc_at h5.obj
    have h5z := h5.by Imp.dr
    cases hst2 : a.st with
    | true =>
      have c0 := rA.c0
      rw [hst2] at c0
      have hfirst : a.st = true ∨ a.fr ∈ out2 := .inl hst2
      have oa6 := h5.obj
      have h6 := h5z
      simp [← hab, c0, hov, e2, rA.to]
      refine cl_of (in_spec zv zs a.to (hzv.kp0 h6.kp) (by omega)) ?_
      rintro _ w7 ⟨rfl, k7⟩
      have h7 := h6.kp0 hLz k7
      have oa7 := k7.blk oa6 (by simp)
      have rA7 := rc_at oa7
      by_cases hz1 : a.to ∈ zs
      · simp [hz1]
        unfold BgL
        simp [e0, e2, e28, hcj, hlj, hov, e10]
        exact ⟨out2, hJ.keep hja (fun h => absurd hz1 h.2), h7⟩
      simp [hz1, hov, ← hab, rA7.to]
      refine cl_of (in_spec ov out2 a.to h7.own.vw (by omega)) ?_
      rintro _ w8 ⟨rfl, k8⟩
      have h8 := h7.kp0 hLz k8
      have rA8 := rc_at (k8.blk oa7 (by simp))
      by_cases ho1 : a.to ∈ out2
      · simp [ho1]
        unfold BgL
        simp [e0, e2, e28, hcj, hlj, hov, e10]
        exact ⟨out2, hJ.keep hja (fun _ => ho1), h8⟩
      simp [ho1, hov, ← hab, rA8.to, rowOf]
      have h9 := h8.kp0 hLz ((Kp.refl [] w8).alloc (.cells #[.int .i64 (a.to.1 : Nat), .int .i64 (a.to.2 : Nat)] 58))
      refine At.append (xs := [a.to]) .emp h9 fcE_len fcE_one sl_23 rfl (fun j u hj => ?_) (by omega) (by unfold maxLen; omega) fun v' w9 h10 => ?_
      · rw [add_none, cell_blk alloc_new]
        simpa [fcE] using hj
      unfold BgL
      simp [e0, e2, e28, hcj, hlj, hov]
      exact ⟨out2 ++ [a.to], ⟨hJ.b.add hz hr ham ⟨hfirst, hz1⟩ ho1, (fun h => by cases h), (fun _ => by rw [List.length_append, List.length_singleton]; omega), by rw [List.length_append]; omega⟩, h10⟩
    | false =>
      have c0 := rA.c0
      rw [hst2] at c0
      simp [← hab, c0, hov, e2, rA.fr]
      refine cl_of (in_spec ov out2 a.fr h5z.own.vw (by omega)) ?_
      rintro _ w6 ⟨rfl, k6⟩
      have h6 := h5z.kp0 hLz k6
      have oa6 := k6.blk h5.obj (by simp)
      have rA6 := rc_at oa6
      by_cases hfr : a.fr ∈ out2
      · have hfirst : a.st = true ∨ a.fr ∈ out2 := .inr hfr
        simp [hfr, ← hab, e2, rA6.to]
        refine cl_of (in_spec zv zs a.to (hzv.kp0 h6.kp) (by omega)) ?_
        rintro _ w7 ⟨rfl, k7⟩
        have h7 := h6.kp0 hLz k7
        have oa7 := k7.blk oa6 (by simp)
        have rA7 := rc_at oa7
        by_cases hz1 : a.to ∈ zs
        · simp [hz1]
          unfold BgL
          simp [e0, e2, e28, hcj, hlj, hov, e10]
          exact ⟨out2, hJ.keep hja (fun h => absurd hz1 h.2), h7⟩
        simp [hz1, hov, ← hab, rA7.to]
        refine cl_of (in_spec ov out2 a.to h7.own.vw (by omega)) ?_
        rintro _ w8 ⟨rfl, k8⟩
        have h8 := h7.kp0 hLz k8
        have rA8 := rc_at (k8.blk oa7 (by simp))
        by_cases ho1 : a.to ∈ out2
        · simp [ho1]
          unfold BgL
          simp [e0, e2, e28, hcj, hlj, hov, e10]
          exact ⟨out2, hJ.keep hja (fun _ => ho1), h8⟩
        simp [ho1, hov, ← hab, rA8.to, rowOf]
        have h9 := h8.kp0 hLz ((Kp.refl [] w8).alloc (.cells #[.int .i64 (a.to.1 : Nat), .int .i64 (a.to.2 : Nat)] 58))
        refine At.append (xs := [a.to]) .emp h9 fcE_len fcE_one sl_23 rfl (fun j u hj => ?_) (by omega) (by unfold maxLen; omega) fun v' w9 h10 => ?_
        · rw [add_none, cell_blk alloc_new]
          simpa [fcE] using hj
        unfold BgL
        simp [e0, e2, e28, hcj, hlj, hov]
        exact ⟨out2 ++ [a.to], ⟨hJ.b.add hz hr ham ⟨hfirst, hz1⟩ ho1, (fun h => by cases h), (fun _ => by rw [List.length_append, List.length_singleton]; omega), by rw [List.length_append]; omega⟩, h10⟩
      · simp [hfr]
        unfold BgL
        simp [e0, e2, e28, hcj, hlj, hov, e10]
        exact ⟨out2, hJ.keep hja (fun h => by
          rcases h.1 with h1 | h1
          · rw [hst2] at h1; cases h1
          · exact absurd h1 hfr), h6⟩
end Go.Proofs.Ytcplpogmbacnfaa
end
