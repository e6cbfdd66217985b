/-
  A part of the proofs of this seat's statements (BdW3); no conditions beyond those each theorem names.
-/
import Derived.Test.YtkojilpjpdpmaaaRBdW2
import Derived.Test.YtkojilpjpdpmaaaRBdAp
set_option maxRecDepth 100000
set_option linter.unusedSimpArgs false
set_option linter.unusedVariables false
namespace Go.Proofs.YtkojilpjpdpmaaaR
open Go Go.W Go.Bd Go.Maps
def p2V (p : Nat × Nat) : Value := .agg (ints [p.1, p.2]).toArray
def p2_ok (p : Nat × Nat) : Prop := ∀ x ∈ [p.1, p.2], i64ok x
theorem key2 : KeyEnc Try.prog 126 p2V p2_ok := {
  keyed := Keyed.of_law (deep_law_laid laidOut (m := 5) (by omega) (of_decide_eq_true (by kernel_rfl)) (by kernel_rfl) (by kernel_rfl))
  lit := fun d hd => key_array Try.underlying126 Try.underlying3 (by kernel_rfl) (by kernel_rfl) (by kernel_rfl) (m := Try.prog.types.size - 1) (by kernel_rfl) rfl hd
  inj := fun x y h => by
    have := ints_inj h
    cases x; cases y; simp at this; simp [this] }
abbrev MemA (b : Nat) (M : Mem2) : Asr := MapA b p2V natV p2_ok M
def ApPost (m n lim op : Nat) (S : Nat → Nat → Prop) (ns : Ns) (M : Mem2) (f g b : Nat) (B : Asr) (w : World) (F : List Nat) (v : Value) (w' : World) : Prop :=
  ∃ r ns' M', v = optV r ∧ ApOk n lim op S ns M f g r ns' M' ∧ At w F (Star (MgrA m n lim ns') (Star (MemA b M') B)) w'
def ApE (m op p q b : Nat) (ρ : Env) : Prop := ρ 0 = .pointer (some ⟨m, 0, none⟩) ∧ ρ 1 = .int .i64 (op : Nat) ∧ ρ 2 = .int .i64 (p : Nat) ∧ ρ 3 = .int .i64 (q : Nat) ∧ ρ 4 = .map (some b)
theorem getM_in {κ α : Type} [DecidableEq κ] {l : List (κ × α)} {x : κ} {v : α} (h : getM l x = some v) : (x, v) ∈ l := by
  rw [getM, Option.map_eq_some_iff] at h
  obtain ⟨q, hq, rfl⟩ := h
  have h1 := List.mem_of_find?_eq_some hq
  have h2 : q.1 = x := by simpa using List.find?_some hq
  rw [← h2]; exact h1
theorem getM_no {κ α : Type} [DecidableEq κ] {l : List (κ × α)} {x : κ} (h : getM l x = none) : ∀ q ∈ l, q.1 ≠ x := by
  rw [getM, Option.map_eq_none_iff, List.find?_eq_none] at h
  intro q hq; simpa using h q hq
theorem putM_no {κ α : Type} [DecidableEq κ] {l : List (κ × α)} {x : κ} {v : α} (h : ∀ q ∈ l, q.1 ≠ x) : putM l x v = l ++ [(x, v)] := by
  rw [putM, if_neg]
  simp only [List.any_eq_true, decide_eq_true_eq, not_exists, not_and]
  exact h
theorem MapM.nodup {κ α : Type} {ek : κ → Value} {ev : α → Value} {ok : κ → Prop} {w : World} {b : Nat} {l : List (κ × α)} (h : MapM w b ek ev ok l) : (l.map (·.1)).Nodup := by
  obtain ⟨es, clock, _, _, _, _, hnd, _⟩ := h
  exact hnd
set_option maxHeartbeats 4000000 in
theorem apply_aux (m n lim op b : Nat) (hop : op ≤ 2) (S : Nat → Nat → Prop) (w : World) (F : List Nat) : ∀ (d f g : Nat) (ns : Ns) (M : Mem2) (B : Asr) (w1 : World), Lcl B → Wf n ns → Bnd n lim ns → Ref ns f → Ref ns g → n ≤ d + min (tv n ns f) (tv n ns g) → MemOk op ns M → Clo n op ns S → Sn op S f g →
    At w F (Star (MgrA m n lim ns) (Star (MemA b M) B)) w1 →
    Calls Try.prog 69 [.pointer (some ⟨m, 0, none⟩), .int .i64 (op : Nat), .int .i64 (f : Nat), .int .i64 (g : Nat), .map (some b)].toArray w1 fun e w' => ∃ v, e = .returned v ∧ ApPost m n lim op S ns M f g b B w F v w' := by
  intro d
  induction d using Nat.strongRecOn with
  | ind d ih =>
  intro f g ns M B w1 hB hw hb hf hg hd hM hC hS hA
  obtain ⟨hbn, hbl, hbs⟩ := hb
  refine enter Try.func69 mixed low69 (Nat.le_of_ble_eq_true rfl) ?_
  simp only [L69]
  refine seq_cut (fun ρ w' => ApE m op f g b ρ ∧ w' = w1) (by simp [ApE]) ?_
  rintro ρ w' ⟨⟨g0, g1, g2, g3, g4⟩, rfl⟩
  refine seq_cut (fun ρ w'' => ApE m op (min f g) (max f g) b ρ ∧ w'' = w') ?_ ?_
  · rcases Nat.lt_or_ge g f with h | h
    · have h' : (g : Int) < f := by omega
      simp [g2, g3, h, h', ApE, g0, g1, g4]
      omega
    · have h' : ¬ (g : Int) < f := by omega
      have h'' : ¬ g < f := by omega
      simp [g2, g3, h', h'', ApE, g0, g1, g4]
      omega
  clear g0 g1 g2 g3 g4
  rintro ρ w2 ⟨⟨g0, g1, g2, g3, g4⟩, rfl⟩
  have hfin : ∀ v w'', ApPost m n lim op S ns M (min f g) (max f g) b B w F v w'' → ApPost m n lim op S ns M f g b B w F v w'' := by
    rintro v w'' ⟨r, ns', M', h1, h2, h3⟩
    refine ⟨r, ns', M', h1, ?_, h3⟩
    rcases Nat.le_total f g with h | h
    · rwa [Nat.min_eq_left h, Nat.max_eq_right h] at h2
    · rw [Nat.min_eq_right h, Nat.max_eq_left h] at h2; exact h2.swap
  have hpq : min f g ≤ max f g := by omega
  have hrp : Ref ns (min f g) := by unfold Ref at *; omega
  have hrq : Ref ns (max f g) := by unfold Ref at *; omega
  have hdm : n ≤ d + min (tv n ns (min f g)) (tv n ns (max f g)) := by
    rcases Nat.le_total f g with h | h
    · rwa [Nat.min_eq_left h, Nat.max_eq_right h]
    · rw [Nat.min_eq_right h, Nat.max_eq_left h, Nat.min_comm]; exact hd
  unfold Sn at hS
  obtain ⟨p, hp⟩ : ∃ p, p = min f g := ⟨_, rfl⟩
  obtain ⟨q, hq⟩ : ∃ q, q = max f g := ⟨_, rfl⟩
  rw [← hp, ← hq] at hfin hpq hdm hS
  rw [← hp] at hrp g2
  rw [← hq] at hrq g3
  refine seq_cut (fun ρ w'' => ApE m op p q b ρ ∧ (sh op p q).2 = false ∧ At w F (Star (MgrA m n lim ns) (Star (MemA b M) B)) w'') ?_ ?_
  · simp [g1, g2, g3]
    refine cl_of (short_spec op p q w2 hop) ?_
    rintro v w3 ⟨rfl, k3⟩
    have h3 := hA.kp0 (Lcl.mgr.star (Lcl.map.star hB)) k3
    cases hsh : sh op p q with
    | mk r t =>
    cases t with
    | true =>
      simp
      refine hfin _ _ ⟨some r, ns, M, rfl, ap_short hw hbs hrp hrq hM hsh, h3⟩
    | false =>
      simp [ApE, g0, g1, g2, g3, g4]
      exact h3
  clear g0 g1 g2 g3 g4
  rintro ρ w3 ⟨⟨g0, g1, g2, g3, g4⟩, hshf, h3⟩
  have hSpq : S p q := by
    rcases hS with h | h
    · rw [h] at hshf; cases hshf
    · exact h
  have hok : p2_ok (p, q) := by
    intro x hx
    unfold i64ok Ref at *
    simp at hx
    rcases hx with rfl | rfl <;> omega
  refine seq_cut (fun ρ w'' => ApE m op p q b ρ ∧ getM M (p, q) = none ∧ At w F (Star (MgrA m n lim ns) (Star (MemA b M) B)) w'') ?_ ?_
  · simp [g2, g3, g4]
    refine MapM.look2 (x := (p, q)) h3.drop.map key2 Try.underlying119 zint hok ?_
    cases hgm : getM M (p, q) with
    | some r =>
      simp [natV]
      exact hfin _ _ ⟨some r, ns, M, rfl, ap_known hw hbs hM (getM_in hgm), h3⟩
    | none =>
      simp [ApE, g0, g1, g2, g3, g4]
      exact h3
  clear g0 g1 g2 g3 g4
  rintro ρ w4 ⟨⟨g0, g1, g2, g3, g4⟩, hgm, h4⟩
  have hb' : Bnd n lim ns := ⟨hbn, hbl, hbs⟩
  have hLX : Lcl (Star (MgrA m n lim ns) (Star (MemA b M) B)) := Lcl.mgr.star (Lcl.map.star hB)
  refine seq_cut (fun ρ w'' => ApE m op p q b ρ ∧ ∃ ta tb, ρ 16 = .pointer (some ⟨ta, 0, none⟩) ∧ ρ 17 = .pointer (some ⟨tb, 0, none⟩) ∧
      At w F (Star (ObjA ta (.cells (en (at_ n ns p)).toArray 90 (0, 0))) (Star (ObjA tb (.cells (en (at_ n ns q)).toArray 90 (0, 0))) (Star (MgrA m n lim ns) (Star (MemA b M) B)))) w'') ?_ ?_
  · simp [g0, g2, g3]
    refine cl_of (at_spec m n lim p ns w4 (MgrA.rd h4) hb' hrp) ?_
    rintro v w5 ⟨rfl, k5⟩
    have h5 := h4.kp0 hLX k5
    simp [g0, g2, g3]
    refine cl_of (at_spec m n lim q ns w5 (MgrA.rd h5) hb' hrq) ?_
    rintro v w6 ⟨rfl, k6⟩
    have h6 := h5.kp0 hLX k6
    obtain ⟨a1, ha1⟩ : ∃ d, d = at_ n ns p := ⟨_, rfl⟩
    obtain ⟨b1, hb1⟩ : ∃ d, d = at_ n ns q := ⟨_, rfl⟩
    rw [← ha1, ← hb1]
    have h7 := h6.alloc (.cells #[.int .i64 0, .int .i64 0, .int .i64 0] 90) hLX
    have h8 := h7.alloc (.cells #[.int .i64 0, .int .i64 0, .int .i64 0] 90) (Lcl.obj.star hLX)
    rw [show (w6.alloc (.cells #[.int .i64 0, .int .i64 0, .int .i64 0] 90)).heap.size = w6.heap.size + 1 by simp] at h8
    simp [ndV, en_len]
    refine h8.rot.st (Lcl.obj.star hLX) (by simp [en, ints]) (by simp [en, ints]) fun w9 h9 => ?_
    simp [ndV, en_len]
    refine h9.rot.st (Lcl.obj.star hLX) (by simp [en, ints]) (by simp [en, ints]) fun w10 h10 => ?_
    simp [ApE, g0, g1, g2, g3, g4]
    have e3 : ∀ d : Nd, wrAt #[.int .i64 0, .int .i64 0, .int .i64 0] 0 (en d) = (en d).toArray := fun d => by simp [en, ints]
    rw [e3, e3] at h10
    exact h10.rot
  clear g0 g1 g2 g3 g4
  rintro ρ w5 ⟨⟨g0, g1, g2, g3, g4⟩, ta, tb, g16, g17, h5⟩
  have hpre : ApPre n op S ns M p q (min (tv n ns p) (tv n ns q)) := ApPre.mk' hw hrp hrq hSpq hpq hshf (getM_no hgm)
  obtain ⟨v, hv⟩ : ∃ v, v = min (tv n ns p) (tv n ns q) := ⟨_, rfl⟩
  rw [← hv] at hpre
  have hlp : ∀ x, Ref ns x → x ≤ 1048577 := fun x hx => by unfold Ref at hx; omega
  have hoa := h5.obj
  have hob := h5.drop.obj
  refine seq_cut (fun ρ w'' => ApE m op p q b ρ ∧ ρ 16 = .pointer (some ⟨ta, 0, none⟩) ∧ ρ 17 = .pointer (some ⟨tb, 0, none⟩) ∧ ρ 18 = .int .i64 (v : Nat) ∧ w'' = w5) ?_ ?_
  · simp [g16, g17, cell_blk hoa, cell_blk hob, en, ints, ApE, g0, g1, g2, g3, g4]
    have : tv n ns p = (at_ n ns p).v := rfl
    have : tv n ns q = (at_ n ns q).v := rfl
    omega
  clear g0 g1 g2 g3 g4 g16 g17
  rintro ρ w6 ⟨⟨g0, g1, g2, g3, g4⟩, g16, g17, g18, rfl⟩
  have hLB : Lcl (Star (ObjA tb (.cells (en (at_ n ns q)).toArray 90 (0, 0))) (Star (MgrA m n lim ns) (Star (MemA b M) B))) := Lcl.obj.star hLX
  refine seq_cut (fun ρ w'' => ApE m op p q b ρ ∧ ρ 16 = .pointer (some ⟨ta, 0, none⟩) ∧ ρ 17 = .pointer (some ⟨tb, 0, none⟩) ∧ ρ 18 = .int .i64 (v : Nat) ∧
      At w F (Star (ObjA ta (.cells (en ⟨v, lo n ns v p, hi n ns v p⟩).toArray 90 (0, 0))) (Star (ObjA tb (.cells (en (at_ n ns q)).toArray 90 (0, 0))) (Star (MgrA m n lim ns) (Star (MemA b M) B)))) w'') ?_ ?_
  · have e : tv n ns p = (at_ n ns p).v := rfl
    by_cases hgt : v < (at_ n ns p).v
    · have hgt' : (v : Int) < (at_ n ns p).v := by omega
      simp [g16, g18, g2, cell_blk hoa, en, ints, hgt, hgt']
      refine h5.st hLB (by simp [en, ints]) (by simp) fun w7 h7 => ?_
      simp [ApE, g0, g1, g2, g3, g4, g16, g17, g18]
      have hlo : lo n ns v p = p := by unfold lo; rw [if_pos (by rw [e]; exact hgt)]
      have hhi : hi n ns v p = p := by unfold hi; rw [if_pos (by rw [e]; exact hgt)]
      rw [hlo, hhi]
      simpa [en, ints] using h7
    · have hgt' : ¬ (v : Int) < (at_ n ns p).v := by omega
      have hev : (at_ n ns p).v = v := by rw [e] at hv; omega
      have hlo : lo n ns v p = (at_ n ns p).low := by unfold lo; rw [if_neg (by rw [e]; exact hgt)]
      have hhi : hi n ns v p = (at_ n ns p).high := by unfold hi; rw [if_neg (by rw [e]; exact hgt)]
      simp [g16, g18, g2, cell_blk hoa, en, ints, hgt, hgt', ApE, g0, g1, g3, g4, g17]
      rw [hlo, hhi]
      have h5' := h5
      simpa [en, ints, hev] using h5'
  clear g0 g1 g2 g3 g4 g16 g17 g18
  rintro ρ w7 ⟨⟨g0, g1, g2, g3, g4⟩, g16, g17, g18, h7⟩
  have hob := h7.drop.obj
  have hLA : Lcl (Star (ObjA ta (.cells (en ⟨v, lo n ns v p, hi n ns v p⟩).toArray 90 (0, 0))) (Star (MgrA m n lim ns) (Star (MemA b M) B))) := Lcl.obj.star hLX
  refine seq_cut (fun ρ w'' => ApE m op p q b ρ ∧ ρ 16 = .pointer (some ⟨ta, 0, none⟩) ∧ ρ 17 = .pointer (some ⟨tb, 0, none⟩) ∧ ρ 18 = .int .i64 (v : Nat) ∧
      At w F (Star (ObjA ta (.cells (en ⟨v, lo n ns v p, hi n ns v p⟩).toArray 90 (0, 0))) (Star (ObjA tb (.cells (en ⟨v, lo n ns v q, hi n ns v q⟩).toArray 90 (0, 0))) (Star (MgrA m n lim ns) (Star (MemA b M) B)))) w'') ?_ ?_
  · have e : tv n ns q = (at_ n ns q).v := rfl
    by_cases hgt : v < (at_ n ns q).v
    · have hgt' : (v : Int) < (at_ n ns q).v := by omega
      simp [g17, g18, g3, cell_blk hob, en, ints, hgt, hgt']
      refine h7.rot.st hLA (by simp [en, ints]) (by simp) fun w8 h8 => ?_
      simp [ApE, g0, g1, g2, g3, g4, g16, g17, g18]
      have hlo : lo n ns v q = q := by unfold lo; rw [if_pos (by rw [e]; exact hgt)]
      have hhi : hi n ns v q = q := by unfold hi; rw [if_pos (by rw [e]; exact hgt)]
      rw [hlo, hhi]
      simpa [en, ints] using h8.rot
    · have hgt' : ¬ (v : Int) < (at_ n ns q).v := by omega
      have hev : (at_ n ns q).v = v := by rw [e] at hv; omega
      have hlo : lo n ns v q = (at_ n ns q).low := by unfold lo; rw [if_neg (by rw [e]; exact hgt)]
      have hhi : hi n ns v q = (at_ n ns q).high := by unfold hi; rw [if_neg (by rw [e]; exact hgt)]
      simp [g17, g18, g3, cell_blk hob, en, ints, hgt, hgt', ApE, g0, g1, g2, g4, g16]
      rw [hlo, hhi]
      simpa [en, ints, hev] using h7
  clear g0 g1 g2 g3 g4 g16 g17 g18
  rintro ρ w8 ⟨⟨g0, g1, g2, g3, g4⟩, g16, g17, g18, h8⟩
  have hclo := hC p q hSpq
  rw [← hv] at hclo
  obtain ⟨_, _, hSl, hSh⟩ := hclo
  have hcp := hpre.cp
  have hcq := hpre.cq
  have hLo : Lcl (Star (ObjA ta (.cells (en ⟨v, lo n ns v p, hi n ns v p⟩).toArray 90 (0, 0))) (Star (ObjA tb (.cells (en ⟨v, lo n ns v q, hi n ns v q⟩).toArray 90 (0, 0))) B)) := Lcl.obj.star (Lcl.obj.star hB)
  have hoa := h8.obj
  have hob := h8.drop.obj
  simp [g0, g1, g4, g16, g17, cell_blk hoa, cell_blk hob, en, ints]
  have tl1 := hcp.tl
  have tl2 := hcq.tl
  have th1 := hcp.th
  have th2 := hcq.th
  have hvn0 := hpre.vn
  refine cl_of (ih (d - 1) (by omega) (lo n ns v p) (lo n ns v q) ns M _ w8 hLo hw hb' hcp.rl hcq.rl (by omega) hM hC hSl h8.rot4.rot4) ?_
  rintro _ w9 ⟨r1, ns1, M1, rfl, hl, h9⟩
  have drp : ∀ {nsx : Ns} {Mx : Mem2} {wx : World}, At w F (Star (MgrA m n lim nsx) (Star (MemA b Mx) (Star (ObjA ta (.cells (en ⟨v, lo n ns v p, hi n ns v p⟩).toArray 90 (0, 0))) (Star (ObjA tb (.cells (en ⟨v, lo n ns v q, hi n ns v q⟩).toArray 90 (0, 0))) B)))) wx → At w F (Star (MgrA m n lim nsx) (Star (MemA b Mx) B)) wx := fun h => h.by (Imp.un (Imp.un (Imp.dr.trans Imp.dr)))
  cases r1 with
  | none =>
    simp [optV, noV, errV]
    exact hfin _ _ ⟨none, ns1, M1, rfl, ap_low hpre hl, drp h9⟩
  | some l =>
  have hw1 := hl.ext.wf
  have hb1 : Bnd n lim ns1 := ⟨hbn, hbl, hl.lim⟩
  have hoa := h9.drop.drop.obj
  have hob := h9.drop.drop.drop.obj
  simp [optV, okV, g0, g1, g4, g16, g17, cell_blk hoa, cell_blk hob, en, ints]
  refine cl_of (ih (d - 1) (by omega) (hi n ns v p) (hi n ns v q) ns1 M1 _ w9 hLo hw1 hb1 (hl.ext.ref hcp.rh) (hl.ext.ref hcq.rh) (by rw [hl.ext.tv hcp.rh, hl.ext.tv hcq.rh]; omega) hl.mem (hC.ext hl.ext) hSh h9) ?_
  rintro _ w10 ⟨r2, ns2, M2, rfl, hh, h10⟩
  rw [← hi_ext hl.ext hpre.rp, ← hi_ext hl.ext hpre.rq] at hh
  cases r2 with
  | none =>
    simp [optV, noV, errV]
    exact hfin _ _ ⟨none, ns2, M2, rfl, ap_high hpre hl hh, drp h10⟩
  | some hgh =>
  have hm := ap_mid hpre hl hh
  have hmk := ap_make hpre hl hh
  have hb2 : Bnd n lim ns2 := ⟨hbn, hbl, hm.lim⟩
  have hl2 := hm.lim
  have hvn := hpre.vn
  have hlr : l ≤ 2000000 := by have := hmk.1; unfold Ref at this; omega
  have hhr : hgh ≤ 2000000 := by have := hmk.2.1; unfold Ref at this; omega
  simp [optV, okV, g0, g18]
  refine cl_of (make_spec m n lim ns2 v l hgh (Lcl.map.star hLo) h10 hb2 (by omega) hlr hhr) ?_
  rintro _ w11 ⟨rfl, h11⟩
  cases hk : (mkF lim ns2 v l hgh).1 with
  | none =>
    simp [optV, noV, errV]
    exact hfin _ _ ⟨none, _, M2, rfl, ap_full hpre hl hh hk, drp h11⟩
  | some x =>
  simp [optV, okV, g2, g3, g4]
  have hml := mem_small (N := 1048578) (by omega) (fun q hq => ⟨(hm.mem q hq).1, (hm.mem q hq).2.1⟩) (MapM.nodup h10.drop.map)
  refine At.put (x := (p, q)) (v := x) (Lcl.mgr.star hLo) h11.rot key2 Try.underlying119 hok (by unfold maxLen; omega) fun w12 h12 => ?_
  rw [putM_no (mid_nokey hpre hm)] at h12
  simp
  exact hfin _ _ ⟨some x, _, _, rfl, ap_done hpre hl hh hk, drp h12.rot⟩
theorem apply_spec {w w1 : World} {F : List Nat} {B : Asr} (m n lim op b f g : Nat) (hop : op ≤ 2) (S : Nat → Nat → Prop) (ns : Ns) (M : Mem2) (hB : Lcl B) (hw : Wf n ns) (hb : Bnd n lim ns) (hf : Ref ns f) (hg : Ref ns g) (hM : MemOk op ns M) (hC : Clo n op ns S) (hS : Sn op S f g)
    (hA : At w F (Star (MgrA m n lim ns) (Star (MemA b M) B)) w1) :
    Calls Try.prog 69 [.pointer (some ⟨m, 0, none⟩), .int .i64 (op : Nat), .int .i64 (f : Nat), .int .i64 (g : Nat), .map (some b)].toArray w1 fun e w' => ∃ v, e = .returned v ∧ ApPost m n lim op S ns M f g b B w F v w' :=
  apply_aux m n lim op b hop S w F n f g ns M B w1 hB hw hb hf hg (by omega) hM hC hS hA
/-! ### References that are checked -/
theorem check_nil (v : Value) (w : World) : Calls Try.prog 50 [.pointer none, v].toArray w fun e w' => ∃ x, e = .returned x ∧ x = errV 3 ∧ Kp [] w w' := by
  refine enter Try.func50 mixed low50 (Nat.le_of_ble_eq_true rfl) ?_
  simp only [L50]
  simp
  exact ⟨rfl, Kp.refl _ _⟩
def iv (n : Int) : List Value := [.int .i64 n]
theorem iv_len (n : Int) : (iv n).length = 1 := rfl
theorem iv_one (n : Int) : (iv n).all oneC = true := rfl
theorem iv_cell {w : World} {v : Value} {xs : List Int} (h : Vw w v iv xs) {k : Nat} {x : Int} (hx : xs[k]? = some x) : w.cell? (v.adr.add k) = some (.int .i64 x) := Vw.cell (f := fun n : Int => .int .i64 n) h hx
def refB (ns : Ns) (x : Int) : Bool := decide (0 ≤ x) && decide (x < ns.length + 2)
def chkV (b : Bool) : Value := if b then .nilIface else errV 1
theorem check_spec (m n lim : Nat) (ns : Ns) (v : Value) (xs : List Int) (w : World) (h : MgrF w m n lim ns) (hb : Bnd n lim ns) (hv : Vw w v iv xs) (hx : xs.length ≤ 1000000) :
    Calls Try.prog 50 [.pointer (some ⟨m, 0, none⟩), v].toArray w fun e w' => ∃ x, e = .returned x ∧ x = chkV (xs.all (refB ns)) ∧ Kp [] w w' := by
  obtain ⟨hbn, hbl, hbs⟩ := hb
  refine enter Try.func50 mixed low50 (Nat.le_of_ble_eq_true rfl) ?_
  simp only [L50]
  simp [hv.len]
  refine range_loop (n := xs.length) (by omega) (fun k ρ w1 => ρ 0 = .pointer (some ⟨m, 0, none⟩) ∧ ρ 10 = v ∧ (∀ j x, j < k → xs[j]? = some x → refB ns x = true) ∧ Kp [] w w1) (by simp) (by simp)
    ⟨by simp, by simp, by simp, Kp.refl _ _⟩ (by decide) (fun _ _ _ _ h => by simpa using h) (fun _ _ _ _ h => by simpa using h) ?_ ?_
  · rintro k ρ w1 hk hc hlim ⟨g0, g10, hall, hkp⟩
    have hv1 := hv.kp0 hkp
    obtain ⟨nv, b, ho, hown, _⟩ := h.kp0 hkp
    have ek : xs[k]? = some xs[k] := List.getElem?_eq_getElem hk
    obtain ⟨x, hxe⟩ : ∃ x, x = xs[k] := ⟨_, rfl⟩
    rw [← hxe] at ek
    have bad : refB ns x = false → xs.all (refB ns) = false := fun h => by
      rw [List.all_eq_false]
      exact ⟨x, List.mem_of_getElem? ek, by simp [h]⟩
    unfold mgrO at ho
    simp (disch := omega) [g0, g10, hc, hv1.idx, iv_cell hv1 ek, cell_blk ho, hown.len, wrap_i64]
    by_cases h1 : x < 0
    · simp [h1]
      refine ⟨?_, hkp⟩
      rw [bad (by simp [refB]; omega)]; rfl
    by_cases h2 : (ns.length : Int) + 2 ≤ x
    · simp (disch := omega) [h1, h2, wrap_i64, cell_blk ho, hown.len, g0]
      refine ⟨?_, hkp⟩
      rw [bad (by simp [refB]; omega)]; rfl
    · simp (disch := omega) [h1, h2, wrap_i64, cell_blk ho, hown.len, hc, hlim, g0, g10]
      refine ⟨fun j y hj hy => ?_, hkp⟩
      rcases Nat.lt_or_ge j k with h3 | h3
      · exact hall j y h3 hy
      · have : j = k := by omega
        subst this
        rw [ek] at hy
        rw [← Option.some.inj hy]
        simp [refB]; omega
  · rintro ρ w1 ⟨g0, g10, hall, hkp⟩
    simp
    refine ⟨?_, hkp⟩
    have : xs.all (refB ns) = true := by
      rw [List.all_eq_true]
      intro x hx
      obtain ⟨j, hj⟩ := List.getElem?_of_mem hx
      exact hall j x (List.getElem?_eq_some_iff.1 hj).1 hj
    rw [this]; rfl
end Go.Proofs.YtkojilpjpdpmaaaR
