/-
  A part of the proofs of this seat's statements (RxXE); no conditions beyond those each theorem names.
-/
import Derived.Test.YtjpbkljnllkneaaRxXD
set_option maxRecDepth 100000
set_option linter.unusedSimpArgs false
set_option linter.unusedVariables false
namespace Go.Proofs.Ytjpbkljnllkneaa
open Go Go.W Go.Tk Go.Rx Go.Maps
theorem unsK_pre {t : Nt} {cost : Nat → Nat} {i : Nat} : ∀ n, i ≤ n → ∃ r, unsK t cost n = unsK t cost i ++ r
  | 0, h => ⟨[], by have : i = 0 := by omega
                    subst this; simp⟩
  | n + 1, h => by
    by_cases e : i = n + 1
    · subst e; exact ⟨[], by simp⟩
    · obtain ⟨r, hr⟩ := unsK_pre (t := t) (cost := cost) n (show i ≤ n by omega)
      unfold unsK at hr ⊢
      rw [List.range_succ, List.flatMap_append, hr, List.append_assoc]
      exact ⟨_, rfl⟩
theorem opU_pre {vars : List Nat} {o : No} {i c j k : Nat} (h : j ≤ k) : ∃ r, opU vars o i c k = opU vars o i c j ++ r := by
  unfold opU
  refine ⟨((List.range k).drop j).map (unA vars o i c), ?_⟩
  rw [← List.map_append]
  congr 1
  have : List.range j = (List.range k).take j := by rw [List.take_range, Nat.min_eq_left h]
  rw [this, List.take_append_drop]
theorem find_mid {α : Type} {l a b : List α} {x : α} {p : α → Bool} (e : l = a ++ [x] ++ b) (ha : ∀ y ∈ a, p y = false) (hx : p x = true) : l.find? p = some x := by
  rw [e, List.append_assoc, List.find?_append, find_no ha]
  simp [hx]
def NoS (l : List Un) (V : Nat → Nat) (n : Nat) : Prop := ∀ y ∈ l, isSup V n y = false
theorem NoS.app {a b : List Un} {V : Nat → Nat} {n : Nat} (h1 : NoS a V n) (h2 : NoS b V n) : NoS (a ++ b) V n := fun y hy => by
  rcases List.mem_append.1 hy with h | h
  · exact h1 y h
  · exact h2 y h
theorem NoS.one {u : Un} {V : Nat → Nat} {n : Nat} (h : isSup V n u = false) : NoS [u] V n := fun y hy => by
  simp at hy; subst hy; exact h
set_option maxHeartbeats 1000000 in
theorem rsupp_spec {w : World} (T : Nt) (cv tv sv : Value) (cl s : List Nat) (V : Nat → Nat) (p q : Nat) (hr : NtR w T) (hg : NtG T) (hc : Vw w cv nE cl) (hcl : cl.length = T.ops.length) (hcb : ∀ c ∈ cl, c ≤ 1048576) (ht : LLV iE w tv (tbI T.vars (iV V))) (hVI : ∀ f, V f ≤ Inf) (hs : Vw w sv nE s) (hst : StN T.vars s) (hp : p < T.vars.length) (hq : q < T.vars.getD p 0) :
    Calls Try.prog 26 [ntV T, cv, tv, sv, faV (faN (p, q))].toArray w fun e w' => ∃ x, e = .returned x ∧ x = prV (supF T.vars s (uns T (cstL cl)) V (faN (p, q))) ∧ Kp [] w w' := by
  refine enter Try.func26 mixed low26 (Nat.le_of_ble_eq_true rfl) ?_
  simp only [L26]
  have hlen := hst.len
  have hol := hg.olen
  have hvl := hg.vlen
  obtain ⟨b, hb⟩ : ∃ b, b = w.heap.size := ⟨_, rfl⟩
  obtain ⟨w1, hw1⟩ : ∃ w1, w1 = w.alloc (.cells #[T.vv.1, T.nv.1, T.gv.1, T.ov.1] 26 (0, 0)) := ⟨_, rfl⟩
  have k1 : Kp [] w w1 := by rw [hw1]; exact (Kp.refl [] w).alloc _
  have ob1 : w1.heap[b]? = some (.cells #[T.vv.1, T.nv.1, T.gv.1, T.ov.1] 26 (0, 0)) := by rw [hb, hw1]; exact alloc_new
  obtain ⟨xb, hxb⟩ : ∃ xb, xb = w1.heap.size := ⟨_, rfl⟩
  obtain ⟨w2, hw2⟩ : ∃ w2, w2 = w1.alloc (.cells #[.int .i64 (p : Nat), .int .i64 (q : Nat)] 57 (0, 0)) := ⟨_, rfl⟩
  have k12 : Kp [] w1 w2 := by rw [hw2]; exact (Kp.refl [] w1).alloc _
  have ob2 := k12.blk ob1 (by simp)
  have ox2 : w2.heap[xb]? = some (.cells #[.int .i64 (p : Nat), .int .i64 (q : Nat)] 57 (0, 0)) := by rw [hxb, hw2]; exact alloc_new
  have k2 := k1.trans k12
  obtain ⟨tp, htl, htv, htr⟩ := (ht.kp k2).tb
  obtain ⟨r, hrp⟩ : ∃ r, tp[p]? = some r := ⟨_, List.getElem?_eq_getElem (by omega)⟩
  have hrow := htr p r hrp
  have ep : w2.cell? (tv.adr.add p) = some r.1.1 := by simpa using htv.at_ sv1_len hrp (o := 0) (u := r.1.1) rfl
  obtain ⟨n, hn⟩ : ∃ n, n = psum T.vars p + q := ⟨_, rfl⟩
  have ex := iE_cell hrow (rwI_at (g := iV V) hq)
  rw [← hn] at ex
  unfold iV at ex
  have hs2 := hs.kp0 k2
  obtain ⟨y, hy⟩ : ∃ y, s[p]? = some y := ⟨_, List.getElem?_eq_getElem (by omega)⟩
  have hyd : s.getD p 0 = y := by simp [List.getD, hy]
  have hpi : (p : Int) < tp.length := by omega
  have hps : (p : Int) < s.length := by omega
  have hqi : (q : Int) < (rwI T.vars (iV V) p).length := by rw [rwI_len]; omega
  have hin : inR (T.vars.map iN) (faN (p, q)) = true := by
    unfold inR faN
    simp only [iN_at, Int.toNat_natCast, Bool.and_eq_true, decide_eq_true_eq, List.length_map]
    omega
  have hsf : supF T.vars s (uns T (cstL cl)) V (faN (p, q)) = if y = q then (-1, -1) else supV (uns T (cstL cl)) V n := by
    unfold supF
    rw [if_pos hin]
    simp only [faN, Int.toNat_natCast, hyd, numF, ← hn]
    by_cases h : y = q
    · simp [h]
    · rw [if_neg h, if_neg (by omega)]
  have hInf : Inf = 1125899906842624 := rfl
  have hVn := hVI n
  rw [hsf]
  obtain ⟨hb', _⟩ : w.heap.size = b ∧ True := ⟨hb.symm, trivial⟩
  simp (disch := omega) [ntV, faV, faN, ← hb, ← hw1, ← hxb, ← hw2, cell_blk ox2, htv.idx, ep, hrow.idx, ex, hs2.idx, nE_cell hs2 hy]
  have kd : Kp [] w w2.drew.drew := k2.drew.drew
  by_cases heq : y = q
  · simp [heq, prV]
    exact kd
  have hne : ((y : Int) == (q : Int)) = false := by simp; omega
  rw [if_neg heq]
  by_cases hge : Inf ≤ V n
  · have hge' : (1125899906842624 : Int) ≤ (V n : Int) := by omega
    have : supV (uns T (cstL cl)) V n = (-1, -1) := by unfold supV; rw [if_pos hge]
    rw [this]
    simp [hne, hge', prV]
    exact kd
  have hge' : ¬ (1125899906842624 : Int) ≤ (V n : Int) := by omega
  have ob3 : w2.drew.drew.heap[b]? = some (.cells #[T.vv.1, T.nv.1, T.gv.1, T.ov.1] 26 (0, 0)) := ob2
  have ox3 : w2.drew.drew.heap[xb]? = some (.cells #[.int .i64 (p : Nat), .int .i64 (q : Nat)] 57 (0, 0)) := ox2
  have hr2 := hr.kp kd
  obtain ⟨w3, hw3⟩ : ∃ w3, w3 = w2.drew.drew := ⟨_, rfl⟩
  rw [← hw3] at ob3 ox3 hr2 kd
  simp [hne, hge', ← hw3, cell_blk ob3, hr2.ops.len]
  refine range_loop (n := T.ops.length) (by omega) (fun i ρ w' => ρ 1 = cv ∧ ρ 2 = tv ∧ ρ 9 = .pointer (some ⟨xb, 0, none⟩) ∧ ρ 12 = .int .i64 (V n : Nat) ∧ ρ 39 = T.ov.1 ∧ NoS (unsK T (cstL cl) i) V n ∧ Kp [] w3 w') (by simp) (by simp)
    ⟨by simp, by simp, by simp [hxb], by simp, by simp, by unfold NoS unsK; simp, Kp.refl _ _⟩ (by decide) (fun _ _ _ _ h => by simpa using h) (fun _ _ _ _ h => by simpa using h) ?_ ?_
  rotate_left
  · rintro ρ w4 ⟨g1, g2, g9, g12, g39, hno, k4⟩
    have : supV (uns T (cstL cl)) V n = (-1, -1) := by unfold supV uns; rw [if_neg hge, find_no hno]
    rw [this]
    simp [prV]
    exact kd.trans k4
  rintro i ρ w4 hi hci hli ⟨g1, g2, g9, g12, g39, hno, k4⟩
  have hr4 := hr2.kp k4
  obtain ⟨o, ho⟩ : ∃ o, T.ops[i]? = some o := ⟨_, List.getElem?_eq_getElem hi⟩
  have hom := List.mem_of_getElem? ho
  have hgo := hg.ops o hom
  have ec := hr4.ops.cells noE_len ho
  simp only [noE] at ec
  have hii : (i : Int) < T.ops.length := by omega
  obtain ⟨ob, hob2⟩ : ∃ ob, ob = w4.heap.size := ⟨_, rfl⟩
  simp (disch := omega) [g39, hci, hli, hr4.ops.idx, ec, ← hob2]
  refine st_oq (o := o.raw) .emp (At.start (w := w4) rfl) hob2 fun w5 h5 => ?_
  have ho5 : w5.heap[ob]? = some (oqO o.raw) := h5.obj
  have ho5' := ho5
  unfold oqO No.raw at ho5'
  rw [hob2] at ho5'
  have k5 := k4.trans h5.kp
  have hro5 := (hr2.kp k5).op o hom
  have helen := hgo.elen
  simp [cell_blk ho5', hro5.effs.len]
  have hsuc := unsK_succ (cost := cstL cl) ho
  refine range_loop (n := o.effs.length) (by omega) (fun j ρ w' => ρ 1 = cv ∧ ρ 2 = tv ∧ ρ 9 = .pointer (some ⟨xb, 0, none⟩) ∧ ρ 12 = .int .i64 (V n : Nat) ∧ ρ 39 = T.ov.1 ∧ ρ 40 = .int .i64 (T.ops.length : Nat) ∧ ρ 41 = .int .i64 (i : Nat) ∧ ρ 13 = .int .i64 (i : Nat) ∧ ρ 14 = .pointer (some ⟨ob, 0, none⟩) ∧ ρ 47 = o.ev.1 ∧ NoS (unsK T (cstL cl) i ++ opU T.vars o i (cstL cl i) j) V n ∧ Kp [] w5 w') (by simp) (by simp)
    ⟨by simp [g1], by simp [g2], by simp [g9], by simp [g12], by simp [g39], by simp [hli], by simp [hci], by simp [hci], by simp [hob2], by simp, by simpa [opU] using hno, Kp.refl _ _⟩ (by decide) (fun _ _ _ _ h => by simpa using h) (fun _ _ _ _ h => by simpa using h) ?_ ?_
  rotate_left
  · clear g1 g2 g9 g12 g39 hci hli
    rintro ρ w6 ⟨g1, g2, g9, g12, g39, g40, g41, g13, g14, g47, hno2, k6⟩
    simp [g1, g2, g9, g12, g39, g40, g41]
    refine ⟨?_, k5.trans k6⟩
    rw [hsuc]
    exact hno2
  clear g1 g2 g9 g12 g39 hci hli
  rintro j ρ w6 hj hcj hlj ⟨g1, g2, g9, g12, g39, g40, g41, g13, g14, g47, hno2, k6⟩
  have k36 := k5.trans k6
  have hr6 := hr2.kp k36
  have hro6 := hr6.op o hom
  obtain ⟨e, he⟩ : ∃ e, o.effs[j]? = some e := ⟨_, List.getElem?_eq_getElem hj⟩
  have hem := List.mem_of_getElem? he
  have ece := hro6.effs.cells nfE_len he
  simp only [nfE] at ece
  have hji : (j : Int) < o.effs.length := by omega
  obtain ⟨fb, hfb⟩ : ∃ fb, fb = w6.heap.size := ⟨_, rfl⟩
  simp (disch := omega) [g47, hcj, hlj, hro6.effs.idx, ece, ← hfb]
  refine st_ef (e := e.raw) .emp (At.start (w := w6) rfl) hfb fun w8 h8 => ?_
  have oe8 := h8.obj
  unfold efO Nf.raw at oe8
  rw [hfb] at oe8
  have k8 := h8.kp
  have k38 := k36.trans k8
  have ox8 := k38.blk ox3 (by simp)
  have ro8 := rd_oq ((k6.trans k8).blk ho5 (by simp))
  have hro8 := (hr2.kp k38).op o hom
  obtain ⟨c, hce⟩ : ∃ c, cl[i]? = some c := ⟨_, List.getElem?_eq_getElem (by omega)⟩
  have hcc : cstL cl i = c := by simp [cstL, List.getD, hce]
  have hcbn := hcb c (List.mem_of_getElem? hce)
  obtain ⟨f1, f2⟩ := hgo.eff e hem
  have hun : unA T.vars o i (cstL cl i) j = ⟨i, j, c, numF T.vars (e.v, e.x), dedup ((o.pre ++ e.cnd).map (numF T.vars))⟩ := by
    rw [unA_at he, hcc]
  have hmk : numF T.vars (e.v, e.x) = n ↔ e.v = p ∧ e.x = q := by
    constructor
    · intro h
      have := numF_inj (vars := T.vars) (f := (e.v, e.x)) (g := (p, q)) f1 f2 hp hq (by rw [h, hn]; rfl)
      injection this with h1 h2
      exact ⟨h1, h2⟩
    · rintro ⟨rfl, rfl⟩
      rw [hn]; rfl
  have nosuc : isSup V n (unA T.vars o i (cstL cl i) j) = false → NoS (unsK T (cstL cl) i ++ opU T.vars o i (cstL cl i) (j + 1)) V n := fun h => by
    rw [opU_succ, ← List.append_assoc]
    exact hno2.app (.one h)
  rw [hun] at nosuc
  by_cases t1 : e.v = p
  case neg =>
    have t1' : ((e.v : Int) == (p : Int)) = false := by simp; omega
    simp [cell_blk oe8, g9, cell_blk ox8, t1', g1, g2, g12, g39, g40, g41, g13, g14, g47, hcj, hlj]
    exact ⟨nosuc (by simp [isSup, hmk, t1]), (k6.trans k8).drew⟩
  by_cases t2 : e.x = q
  case neg =>
    have t1' : ((e.v : Int) == (p : Int)) = true := by simp; omega
    have t2' : ((e.x : Int) == (q : Int)) = false := by simp; omega
    simp [cell_blk oe8, g9, cell_blk ox8, t1', t2', g1, g2, g12, g39, g40, g41, g13, g14, g47, hcj, hlj]
    exact ⟨nosuc (by simp [isSup, hmk, t2]), (k6.trans k8).drew⟩
  have t1' : ((e.v : Int) == (p : Int)) = true := by simp; omega
  have t2' : ((e.x : Int) == (q : Int)) = true := by simp; omega
  have hc8 := hc.kp0 (kd.trans k38)
  have hcii : (i : Int) < cl.length := by omega
  simp (disch := omega) [cell_blk oe8, g9, cell_blk ox8, t1', t2', g14, ro8, No.raw, g1, g2, g13, hc8.idx, nE_cell hc8 hce, hcj]
  have hgp := hgo.pre
  have hgc := hgo.cnd e hem
  have hpl := hgp.len
  have hcl2 := hgc.len
  have hrng : FcRng T.vars (o.pre ++ e.cnd) := fun f hf => by
    rcases List.mem_append.1 hf with h | h
    · exact hgp.rng f h
    · exact hgc.rng f h
  have hll : (o.pre ++ e.cnd).length ≤ 1000000 := by rw [List.length_append]; omega
  obtain ⟨m, hm2⟩ : ∃ m, m = grF T.vars V (o.pre ++ e.cnd) := ⟨_, rfl⟩
  have hgm : gr V (dedup ((o.pre ++ e.cnd).map (numF T.vars))) = m := by rw [gr_dedup, hm2]; rfl
  have hmI : m ≤ Inf := by rw [← hgm]; exact gr_le_iff.2 fun x _ => hVI x
  have isup : isSup V n ⟨i, j, c, numF T.vars (e.v, e.x), dedup ((o.pre ++ e.cnd).map (numF T.vars))⟩ = (decide (numF T.vars (e.v, e.x) = n) && decide (m + c = V n)) := by
    show (decide (numF T.vars (e.v, e.x) = n) && decide (gr V (dedup ((o.pre ++ e.cnd).map (numF T.vars))) + c = V n)) = _
    rw [hgm]
  have k8d := k8.drew
  have ends : ∀ w', Kp [] w8.drew w' → Kp [] w w' := fun w' h => (kd.trans (k36.trans k8d)).trans h
  refine ⟨?_, ?_, ?_⟩
  all_goals
    refine cl_of (needs_spec o j e (hro8.kp ((Kp.refl [] w8).drew)) he (by omega) (by omega)) ?_
    rintro nv w9 n9
    have k9 := n9.kp
    have hc9 := hc8.kp0 (((Kp.refl [] w8).drew).trans k9)
    have ht9 : LLV iE w9 tv (tbI T.vars fun f => ((V f : Nat) : Int)) := ht.kp (ends w9 k9)
    simp (disch := omega) [g1, g2, g13, hc9.idx, nE_cell hc9 hce]
    refine cl_of (greatest_spec tv nv T.vars V (o.pre ++ e.cnd) ht9 n9.own.vw hll hrng) ?_
    rintro _ w10 ⟨rfl, k10⟩
    have hc10 := hc9.kp0 k10
    rw [← hm2]
    have hfin := ends w10 (k9.trans k10)
    by_cases t3 : m + c = V n
    · have t3' : ((m : Int) + (c : Nat) == (V n : Int)) = true := by simp; omega
      have hsup : isSup V n ⟨i, j, c, numF T.vars (e.v, e.x), dedup ((o.pre ++ e.cnd).map (numF T.vars))⟩ = true := by
        rw [isup, decide_eq_true (hmk.2 ⟨t1, t2⟩), decide_eq_true t3]
        rfl
      have hfd : (uns T (cstL cl)).find? (isSup V n) = some ⟨i, j, c, numF T.vars (e.v, e.x), dedup ((o.pre ++ e.cnd).map (numF T.vars))⟩ := by
        obtain ⟨r1, hr1⟩ := unsK_pre (t := T) (cost := cstL cl) T.ops.length (show i + 1 ≤ T.ops.length by omega)
        obtain ⟨r2, hr2⟩ := opU_pre (vars := T.vars) (o := o) (i := i) (c := cstL cl i) (j := j + 1) (k := o.effs.length) (by omega)
        refine find_mid (a := unsK T (cstL cl) i ++ opU T.vars o i (cstL cl i) j) (b := r2 ++ r1) ?_ hno2 hsup
        unfold uns
        rw [hr1, hsuc, hr2, opU_succ, hun]
        simp only [List.append_assoc]
      have hsv : supV (uns T (cstL cl)) V n = ((i : Int), (j : Int)) := by
        unfold supV
        rw [if_neg hge, hfd]
      rw [hsv]
      simp (disch := omega) [g1, g12, g13, hc10.idx, nE_cell hc10 hce, wrap_i64, t3', hcj, prV]
      exact hfin
    · have t3' : ((m : Int) + (c : Nat) == (V n : Int)) = false := by simp; omega
      simp (disch := omega) [g1, g2, g9, g12, g13, g14, g39, g40, g41, g47, hcj, hlj, hc10.idx, nE_cell hc10 hce, wrap_i64, t3']
      exact ⟨nosuc (by rw [isup, decide_eq_false t3, Bool.and_false]), ((k6.trans k8d).trans k9).trans k10⟩
end Go.Proofs.Ytjpbkljnllkneaa
