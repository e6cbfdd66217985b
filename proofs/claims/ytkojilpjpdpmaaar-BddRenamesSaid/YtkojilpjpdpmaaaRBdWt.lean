/-
  Parts of the proofs of this seat's statements (BdWD, BdWE, BdWF, BdWG); no conditions beyond those each theorem names.
-/
import Derived.Test.YtkojilpjpdpmaaaRBdWs
import Derived.Test.YtkojilpjpdpmaaaRLibR
import Derived.Test.YtkojilpjpdpmaaaRBdPa
import Derived.Test.YtkojilpjpdpmaaaRBdWB
import Derived.Test.YtkojilpjpdpmaaaRBdWC
section
set_option maxRecDepth 100000
set_option linter.unusedSimpArgs false
set_option linter.unusedVariables false
namespace Go.Proofs.YtkojilpjpdpmaaaR
open Go Go.W Go.Bd Go.Maps
/-! ### If-then-else -/
def p3V (p : K3) : Value := .agg (ints [p.1, p.2.1, p.2.2]).toArray
def p3_ok (p : K3) : Prop := ∀ x ∈ [p.1, p.2.1, p.2.2], i64ok x
theorem key3 : KeyEnc Try.prog 124 p3V p3_ok := {
  keyed := Keyed.of_law (deep_law_laid laidOut (m := 5) (by omega) (of_decide_eq_true (by kernel_rfl)) (by kernel_rfl) (by kernel_rfl))
  lit := fun d hd => key_array Try.underlying124 Try.underlying3 (by kernel_rfl) (by kernel_rfl) (by kernel_rfl) (m := Try.prog.types.size - 1) (by kernel_rfl) rfl hd
  inj := fun x y h => by
    have := ints_inj h
    obtain ⟨x1, x2, x3⟩ := x
    obtain ⟨y1, y2, y3⟩ := y
    simp at this
    simp [this] }
abbrev MemT (b : Nat) (M : Mem3) : Asr := MapA b p3V natV p3_ok M
def IPost (m n lim : Nat) (ns : Ns) (M : Mem3) (f g h b : Nat) (B : Asr) (w : World) (F : List Nat) (v : Value) (w' : World) : Prop :=
  ∃ r ns' M', v = optV r ∧ IOk n lim ns M f g h r ns' M' ∧ At w F (Star (MgrA m n lim ns') (Star (MemT b M') B)) w'
def IE (m f g h b : Nat) (ρ : Env) : Prop := ρ 0 = .pointer (some ⟨m, 0, none⟩) ∧ ρ 1 = .int .i64 (f : Nat) ∧ ρ 2 = .int .i64 (g : Nat) ∧ ρ 3 = .int .i64 (h : Nat) ∧ ρ 4 = .map (some b)
/-- A row of numbers in a block. -/
def row3 (l : List Nat) : Obj := .cells (ints l).toArray 124 (0, 0)
theorem ints_get {l : List Nat} {k x : Nat} (h : l[k]? = some x) : (ints l)[k]? = some (.int .i64 (x : Nat)) := by simp [ints, h]
theorem ints_len (l : List Nat) : (ints l).length = l.length := by simp [ints]
theorem ints_set (l : List Nat) (k x : Nat) : (ints l).set k (.int .i64 (x : Nat)) = ints (l.set k x) := by simp [ints, List.map_set]
theorem e_eq (a b : Nat) : ((a : Int) == (b : Int)) = decide (a = b) := by
  by_cases h : a = b
  · simp [h]
  · have : ((a : Int) == b) = false := by rw [beq_eq_false_iff_ne]; omega
    rw [this]; simp [h]
theorem e_eq0 (a : Nat) : ((a : Int) == 0) = decide (a = 0) := e_eq a 0
theorem e_eq1 (a : Nat) : ((a : Int) == 1) = decide (a = 1) := e_eq a 1
/-- The first entries of a row. -/
def Up (k : Nat) (u : Nat → Nat) (xs l : List Nat) : Prop := l.length = xs.length ∧ ∀ j x, j < k → xs[j]? = some x → l[j]? = some (u x)
theorem Up.set {k : Nat} {u : Nat → Nat} {xs l : List Nat} {x y : Nat} (h : Up k u xs l) (hx : xs[k]? = some x) (hy : y = u x) : Up (k + 1) u xs (l.set k y) := by
  obtain ⟨h1, h2⟩ := h
  refine ⟨by simpa using h1, fun j z hj hz => ?_⟩
  have hk : k < l.length := by rw [h1]; exact (List.getElem?_eq_some_iff.1 hx).1
  rw [List.getElem?_set]
  by_cases he : k = j
  · subst he
    rw [hx] at hz
    rw [if_pos rfl, if_pos hk, hy, Option.some.inj hz]
  · rw [if_neg he]
    exact h2 j z (by omega) hz
theorem Up.all {u : Nat → Nat} {xs l : List Nat} {k : Nat} (h : Up k u xs l) (hk : k = xs.length) : l = xs.map u := by
  refine List.ext_getElem? fun j => ?_
  rw [List.getElem?_map]
  rcases Nat.lt_or_ge j xs.length with hj | hj
  · rw [h.2 j _ (by omega) (List.getElem?_eq_getElem hj), List.getElem?_eq_getElem hj]; rfl
  · rw [List.getElem?_eq_none (by rw [h.1]; exact hj), List.getElem?_eq_none hj]; rfl
theorem lo_at {n v x : Nat} {ns : Ns} (h : v ≤ tv n ns x) : lo n ns v x = if tv n ns x = v then (at_ n ns x).low else x := by
  unfold lo
  by_cases h1 : tv n ns x = v
  · rw [if_pos h1, if_neg (by omega)]
  · rw [if_neg h1, if_pos (by omega)]
theorem hi_at {n v x : Nat} {ns : Ns} (h : v ≤ tv n ns x) : hi n ns v x = if tv n ns x = v then (at_ n ns x).high else x := by
  unfold hi
  by_cases h1 : tv n ns x = v
  · rw [if_pos h1, if_neg (by omega)]
  · rw [if_neg h1, if_pos (by omega)]
/-- Between two rounds over the three functions. -/
def ItI (m n lim b f g h v kb lb hb2 : Nat) (ns : Ns) (M : Mem3) (B : Asr) (w : World) (F : List Nat) (q : Nat) (ρ : Env) (w' : World) : Prop :=
  ∃ k l r, q = 3 - k ∧ k ≤ 3 ∧ ρ 62 = .int .i64 (k : Nat) ∧ ρ 61 = .agg (ints [f, g, h]).toArray ∧ IE m f g h b ρ ∧ ρ 12 = .pointer (some ⟨kb, 0, none⟩) ∧ ρ 15 = .int .i64 (v : Nat) ∧ ρ 16 = .pointer (some ⟨lb, 0, none⟩) ∧ ρ 17 = .pointer (some ⟨hb2, 0, none⟩) ∧
    Up k (lo n ns v) [f, g, h] l ∧ Up k (hi n ns v) [f, g, h] r ∧
    At w F (Star (ObjA lb (row3 l)) (Star (ObjA hb2 (row3 r)) (Star (ObjA kb (row3 [f, g, h])) (Star (MgrA m n lim ns) (Star (MemT b M) B))))) w'
set_option maxHeartbeats 4000000 in
theorem ite_aux (m n lim b : Nat) (w : World) (F : List Nat) : ∀ (d f g h : Nat) (ns : Ns) (M : Mem3) (B : Asr) (w1 : World), Lcl B → Wf n ns → Bnd n lim ns → Ref ns f → Ref ns g → Ref ns h → n ≤ d + mtv n ns f g h → MemI ns M →
    M.length + 2 ^ (n - mtv n ns f g h) ≤ 1099511627776 →
    At w F (Star (MgrA m n lim ns) (Star (MemT b M) B)) w1 →
    Calls Try.prog 68 [.pointer (some ⟨m, 0, none⟩), .int .i64 (f : Nat), .int .i64 (g : Nat), .int .i64 (h : Nat), .map (some b)].toArray w1 fun e w' => ∃ v, e = .returned v ∧ IPost m n lim ns M f g h b B w F v w' := by
  intro d
  induction d using Nat.strongRecOn with
  | ind d ih =>
  intro f g h ns M B w1 hB hw hb rf rg rh hd hM hMl hA
  obtain ⟨hbn, hbl, hbs⟩ := hb
  have hb' : Bnd n lim ns := ⟨hbn, hbl, hbs⟩
  have bf : f ≤ 1048577 := by unfold Ref at rf; omega
  have bg : g ≤ 1048577 := by unfold Ref at rg; omega
  have bh : h ≤ 1048577 := by unfold Ref at rh; omega
  refine enter Try.func68 mixed low68 (Nat.le_of_ble_eq_true rfl) ?_
  simp only [L68]
  by_cases s1 : f = 1
  · subst s1
    simp
    exact ⟨some g, ns, M, rfl, i_short hw hbs hM rg fun a => by rw [eval_one]; simp, hA⟩
  by_cases s2 : g = h
  · subst s2
    simp [e_eq1, s1]
    exact ⟨some g, ns, M, rfl, i_short hw hbs hM rg fun a => by split <;> rfl, hA⟩
  by_cases s3 : f = 0
  · subst s3
    simp [e_eq, s2]
    exact ⟨some h, ns, M, rfl, i_short hw hbs hM rh fun a => by rw [eval_zero]; simp, hA⟩
  have f2 : 2 ≤ f := by omega
  have hpre := IPre.mk' hw rf rg rh f2
  obtain ⟨v, hv⟩ : ∃ v, v = mtv n ns f g h := ⟨_, rfl⟩
  rw [← hv] at hpre
  have hvn := hpre.vn
  simp [e_eq, e_eq0, e_eq1, s1, s2, s3]
  have hLX : Lcl (Star (MgrA m n lim ns) (Star (MemT b M) B)) := Lcl.mgr.star (Lcl.map.star hB)
  have h1 := hA.alloc (.cells #[.int .i64 0, .int .i64 0, .int .i64 0] 124) hLX
  obtain ⟨kb, hkb⟩ : ∃ kb, kb = w1.heap.size := ⟨_, rfl⟩
  rw [← hkb] at h1 ⊢
  refine h1.st hLX (by simp) (by simp) fun w2 h2 => ?_
  have h2 : At w F (Star (ObjA kb (row3 [f, g, h])) (Star (MgrA m n lim ns) (Star (MemT b M) B))) w2 := by simpa [row3, ints] using h2
  have ho2 := h2.obj
  unfold row3 at ho2
  have hcs : cellsAt w2 ⟨kb, 0, none⟩ 0 3 = some (ints [f, g, h]) := by
    simp [cellsAt, Addr.add, cell_blk ho2, ints]
  have hok : p3_ok (f, g, h) := by
    intro x hx
    unfold i64ok
    simp at hx
    rcases hx with rfl | rfl | rfl <;> omega
  simp [hcs]
  refine MapM.look2 (x := (f, g, h)) h2.drop.drop.map key3 Try.underlying116 zint hok ?_
  cases hgm : getM M (f, g, h) with
  | some r =>
    simp [natV]
    exact ⟨some r, ns, M, rfl, i_known hw hbs hM (getM_in hgm), h2.drop⟩
  | none =>
  have hLK : Lcl (Star (ObjA kb (row3 [f, g, h])) (Star (MgrA m n lim ns) (Star (MemT b M) B))) := Lcl.obj.star hLX
  simp
  refine cl_of (at_spec m n lim f ns w2 (MgrA.rd h2.drop) hb' rf) ?_
  rintro _ w3 ⟨rfl, k3⟩
  have h3 := h2.kp0 hLK k3
  simp [ndV, en, ints]
  refine cl_of (at_spec m n lim g ns w3 (MgrA.rd h3.drop) hb' rg) ?_
  rintro _ w4 ⟨rfl, k4⟩
  have h4 := h3.kp0 hLK k4
  simp [ndV, en, ints]
  refine cl_of (at_spec m n lim h ns w4 (MgrA.rd h4.drop) hb' rh) ?_
  rintro _ w5 ⟨rfl, k5⟩
  have h5 := h4.kp0 hLK k5
  have ev : (min (min ((at_ n ns f).v : Int) (at_ n ns g).v) (at_ n ns h).v) = (v : Int) := by
    have e1 : tv n ns f = (at_ n ns f).v := rfl
    have e2 : tv n ns g = (at_ n ns g).v := rfl
    have e3 : tv n ns h = (at_ n ns h).v := rfl
    unfold mtv at hv
    omega
  simp [ndV, en, ints, ev]
  have h6 := (h5.alloc (.cells #[.int .i64 0, .int .i64 0, .int .i64 0] 124) hLK)
  have h7 := h6.alloc (.cells #[.int .i64 0, .int .i64 0, .int .i64 0] 124) (Lcl.obj.star hLK)
  rw [show (w5.alloc (.cells #[.int .i64 0, .int .i64 0, .int .i64 0] 124)).heap.size = w5.heap.size + 1 by simp] at h7
  obtain ⟨lb, hlb⟩ : ∃ lb, lb = w5.heap.size := ⟨_, rfl⟩
  rw [← hlb] at h7 ⊢
  obtain ⟨hb2, hhb⟩ : ∃ hb2, hb2 = lb + 1 := ⟨_, rfl⟩
  rw [← hhb] at h7 ⊢
  have ho7 := h7.drop.drop.obj
  unfold row3 at ho7
  have hcs7 : cellsAt ((w5.alloc (.cells #[.int .i64 0, .int .i64 0, .int .i64 0] 124)).alloc (.cells #[.int .i64 0, .int .i64 0, .int .i64 0] 124)) ⟨kb, 0, none⟩ 0 3 = some (ints [f, g, h]) := by
    simp [cellsAt, Addr.add, cell_blk ho7, ints]
  simp [hcs7]
  have vle : ∀ k x, [f, g, h][k]? = some x → v ≤ tv n ns x ∧ Ref ns x := fun k x hk => by
    have hm := List.mem_of_getElem? hk
    unfold mtv at hv
    simp at hm
    rcases hm with rfl | rfl | rfl
    · exact ⟨by omega, rf⟩
    · exact ⟨by omega, rg⟩
    · exact ⟨by omega, rh⟩
  refine loop_inv (ItI m n lim b f g h v kb lb hb2 ns M B w F) 3
    ⟨0, [0, 0, 0], [0, 0, 0], by simp, by simp, by simp, by simp, by simp [IE], by simp, by simp, by simp, by simp, ⟨rfl, by simp⟩, ⟨rfl, by simp⟩, by simpa [row3, ints] using h7.rot⟩ ?_
  rintro q ρ w6 ⟨k, l, r, rfl, hk3, c1, c2, ⟨g0, g1, g2, g3, g4⟩, g12, g15, g16, g17, ul, ur, h8⟩
  by_cases hk : k < 3
  · have hk' : (k : Int) < 3 := by omega
    obtain ⟨x, hx⟩ : ∃ x, [f, g, h][k]? = some x := ⟨_, List.getElem?_eq_getElem hk⟩
    obtain ⟨hvx, hrx⟩ := vle k x hx
    have hget := ints_get hx
    have hll : k < l.length := by rw [ul.1]; exact hk
    have hrl : k < r.length := by rw [ur.1]; exact hk
    simp [c1, c2, hk', hget, hk, g0]
    have hLB : ∀ {l r : List Nat}, Lcl (Star (ObjA lb (row3 l)) (Star (ObjA hb2 (row3 r)) (Star (ObjA kb (row3 [f, g, h])) (Star (MgrA m n lim ns) (Star (MemT b M) B))))) := Lcl.obj.star (Lcl.obj.star hLK)
    refine cl_of (at_spec m n lim x ns w6 (MgrA.rd h8.drop.drop.drop) hb' hrx) ?_
    rintro _ w7 ⟨rfl, k7⟩
    have h9 := h8.kp0 hLB k7
    have h10 := h9.alloc (.cells #[.int .i64 0, .int .i64 0, .int .i64 0] 90) hLB
    simp [ndV, en_len]
    refine h10.st hLB (by simp [en, ints]) (by simp [en, ints]) fun w8 h11 => ?_
    obtain ⟨nb, hnb⟩ : ∃ nb, nb = w7.heap.size := ⟨_, rfl⟩
    rw [← hnb] at h11 ⊢
    have hrest : ∀ {r : List Nat} {o : Obj}, Lcl (Star (ObjA nb o) (Star (ObjA hb2 (row3 r)) (Star (ObjA kb (row3 [f, g, h])) (Star (MgrA m n lim ns) (Star (MemT b M) B))))) := Lcl.obj.star (Lcl.obj.star hLK)
    have hrest2 : ∀ {l : List Nat} {o : Obj}, Lcl (Star (ObjA lb (row3 l)) (Star (ObjA nb o) (Star (ObjA kb (row3 [f, g, h])) (Star (MgrA m n lim ns) (Star (MemT b M) B))))) := Lcl.obj.star (Lcl.obj.star hLK)
    have h12 := h11.rot
    unfold row3 at h12
    have hon := h11.obj
    simp [en, ints] at hon
    simp [g16, g17, hk', hk, c1]
    refine h12.st hrest (by simp [ints_len]; omega) (by simp) fun w9 h13 => ?_
    simp [ints_set] at h13
    have h14 := h13.rot3
    simp [g16, g17, hk', hk, c1]
    refine h14.st hrest2 (by simp [ints_len]; omega) (by simp) fun w10 h15 => ?_
    simp [ints_set] at h15
    have hon := h15.rot3.obj
    simp [en, ints] at hon
    have e1 : tv n ns x = (at_ n ns x).v := rfl
    have hlo := lo_at hvx
    have hhi := hi_at hvx
    have hsetl : ∀ (l : List Nat) (y z : Nat), (l.set k y).set k z = l.set k z := fun l y z => by simp
    by_cases he : (at_ n ns x).v = v
    · rw [if_pos (by rw [e1, he])] at hlo hhi
      simp [g15, cell_blk hon, e_eq, c1, g16, g17, he, hk, hk']
      have h16 := (h15.rot).drew (.star .obj (.star .obj (.star .obj hLK)))
      unfold row3 at h16
      refine ⟨?_, ?_⟩ <;>
      · refine h16.st (.star .obj (.star .obj hLK)) (by simp [ints_len]; omega) (by simp) fun w11 h17 => ?_
        simp [ints_set] at h17
        have h18 := h17.rot
        unfold row3 at h18
        have hon2 := h18.rot3.obj
        simp [en, ints] at hon2
        simp [g16, g17, hk', hk, c1, cell_blk hon2]
        refine h18.st (.star .obj (.star .obj hLK)) (by simp [ints_len]; omega) (by simp) fun w12 h19 => ?_
        simp [ints_set] at h19
        simp (disch := omega) [c1, wrap_i64]
        refine ⟨3 - (k + 1), by omega, k + 1, l.set k (at_ n ns x).low, r.set k (at_ n ns x).high, rfl, by omega, by simp, by simpa using c2, by simp [IE, g0, g1, g2, g3, g4], by simp [g12], by simp [g15], by simp [g16], by simp [g17], ul.set hx hlo.symm, ur.set hx hhi.symm, ?_⟩
        exact h19.rot3.drop.rot
    · rw [if_neg (by rw [e1]; exact he)] at hlo hhi
      simp (disch := omega) [g15, cell_blk hon, e_eq, c1, g16, g17, he, hk, hk', wrap_i64]
      refine ⟨3 - (k + 1), by omega, k + 1, l.set k x, r.set k x, rfl, by omega, by simp, by simpa using c2, by simp [IE, g0, g1, g2, g3, g4], by simp [g12], by simp [g15], by simp [g16], by simp [g17], ul.set hx hlo.symm, ur.set hx hhi.symm, ?_⟩
      exact h15.rot3.drop.rot
  · have hk' : ¬ (k : Int) < 3 := by omega
    have el := ul.all (by simp; omega)
    have er := ur.all (by simp; omega)
    subst el er
    have hLo : Lcl (Star (ObjA lb (row3 ([f, g, h].map (lo n ns v)))) (Star (ObjA hb2 (row3 ([f, g, h].map (hi n ns v)))) (Star (ObjA kb (row3 [f, g, h])) B))) := .star .obj (.star .obj (.star .obj hB))
    have h9 : At w F (Star (MgrA m n lim ns) (Star (MemT b M) (Star (ObjA lb (row3 ([f, g, h].map (lo n ns v)))) (Star (ObjA hb2 (row3 ([f, g, h].map (hi n ns v)))) (Star (ObjA kb (row3 [f, g, h])) B))))) w6 := h8.rot5.rot5
    have drp : ∀ {nsx : Ns} {Mx : Mem3} {wx : World}, At w F (Star (MgrA m n lim nsx) (Star (MemT b Mx) (Star (ObjA lb (row3 ([f, g, h].map (lo n ns v)))) (Star (ObjA hb2 (row3 ([f, g, h].map (hi n ns v)))) (Star (ObjA kb (row3 [f, g, h])) B))))) wx → At w F (Star (MgrA m n lim nsx) (Star (MemT b Mx) B)) wx := fun h => h.by (Imp.un (Imp.un (Imp.dr.trans (Imp.dr.trans Imp.dr))))
    have ol := h9.drop.drop.obj
    have oh := h9.drop.drop.drop.obj
    simp [row3, ints] at ol oh
    have lv := hpre.lov
    have tp := two_half (show 0 < n - mtv n ns f g h by omega)
    have tpos := Nat.two_pow_pos (n - mtv n ns f g h - 1)
    have tl := two_mono (show n - mtv n ns (lo n ns v f) (lo n ns v g) (lo n ns v h) ≤ n - mtv n ns f g h - 1 by omega)
    simp [c1, hk', hk, g0, g4, g16, g17, cell_blk ol]
    refine cl_of (ih (d - 1) (by omega) (lo n ns v f) (lo n ns v g) (lo n ns v h) ns M _ w6 hLo hw hb' hpre.cf.rl hpre.cg.rl hpre.ch.rl (by omega) hM (by omega) h9) ?_
    rintro _ w7 ⟨r1, ns1, M1, rfl, hl, h10⟩
    cases r1 with
    | none =>
      simp [optV, noV, errV]
      exact ⟨none, ns1, M1, rfl, i_low hpre hl, drp h10⟩
    | some l =>
    have hw1 := hl.ext.wf
    have hb1 : Bnd n lim ns1 := ⟨hbn, hbl, hl.lim⟩
    have oh := h10.drop.drop.drop.obj
    simp [row3, ints] at oh
    have hvv := hpre.hiv hl.ext
    have th := two_mono (show n - mtv n ns1 (hi n ns v f) (hi n ns v g) (hi n ns v h) ≤ n - mtv n ns f g h - 1 by omega)
    have gr1 := hl.grow
    simp [optV, okV, g0, g4, g16, g17, cell_blk oh]
    refine cl_of (ih (d - 1) (by omega) (hi n ns v f) (hi n ns v g) (hi n ns v h) ns1 M1 _ w7 hLo hw1 hb1 (hl.ext.ref hpre.cf.rh) (hl.ext.ref hpre.cg.rh) (hl.ext.ref hpre.ch.rh) (by omega) hl.mem (by omega) h10) ?_
    rintro _ w8 ⟨r2, ns2, M2, rfl, hh, h11⟩
    cases r2 with
    | none =>
      simp [optV, noV, errV]
      exact ⟨none, ns2, M2, rfl, i_high hpre hl hh, drp h11⟩
    | some u =>
    have hm := i_mid hpre hl hh
    have hb2' : Bnd n lim ns2 := ⟨hbn, hbl, hm.lim⟩
    have hl2 := hm.lim
    have hlr : l ≤ 2000000 := by have := hm.rl; unfold Ref at this; omega
    have hur : u ≤ 2000000 := by have := hm.rk; unfold Ref at this; omega
    simp [optV, okV, g0, g15]
    refine cl_of (make_spec m n lim ns2 v l u (Lcl.map.star hLo) h11 hb2' (by omega) hlr hur) ?_
    rintro _ w9 ⟨rfl, h12⟩
    cases hk : (mkF lim ns2 v l u).1 with
    | none =>
      simp [optV, noV, errV]
      exact ⟨none, _, M2, rfl, i_full hpre hm hk, drp h12⟩
    | some x =>
    have ok := h12.drop.drop.drop.drop.obj
    simp [row3, ints] at ok
    have hcs9 : cellsAt w9 ⟨kb, 0, none⟩ 0 3 = some (ints [f, g, h]) := by
      simp [cellsAt, Addr.add, cell_blk ok, ints]
    have gr2 := hm.grow
    simp [optV, okV, g4, g12, hcs9]
    refine At.put (x := (f, g, h)) (v := x) (Lcl.mgr.star hLo) h12.rot key3 Try.underlying116 hok (by unfold maxLen; omega) fun w12 h13 => ?_
    simp
    refine ⟨some x, _, _, rfl, i_done hpre hm hk (fun q hq => putM_mem hq) ?_, drp h13.rot⟩
    unfold putM
    split <;> simp
theorem Ite_nil (f g h : Int) (w : World) : Calls Try.prog 46 [.pointer none, .int .i64 f, .int .i64 g, .int .i64 h].toArray w fun e w' => ∃ x, e = .returned x ∧ x = noV 3 ∧ Kp [] w w' := by
  refine enter Try.func46 mixed low46 (Nat.le_of_ble_eq_true rfl) ?_
  simp only [L46]
  simp [rowOf]
  refine cl_of (check_nil _ _) ?_
  rintro v w2 ⟨rfl, k2⟩
  simp [errV]
  exact ⟨rfl, ((Kp.refl [] w).alloc _).trans0 k2⟩
def ItPost (m n lim : Nat) (ns : Ns) (f g h : Nat) (B : Asr) (w : World) (F : List Nat) (v : Value) (w' : World) : Prop :=
  ∃ r ns' M', v = optV r ∧ IOk n lim ns [] f g h r ns' M' ∧ At w F (Star (MgrA m n lim ns') B) w'
theorem Ite_spec {w w1 : World} {F : List Nat} {B : Asr} (m n lim : Nat) (ns : Ns) (f g h : Nat) (hn : n ≤ 40) (hB : Lcl B) (hA : At w F (Star (MgrA m n lim ns) B) w1) (hw : Wf n ns) (hb : Bnd n lim ns) (hf : Ref ns f) (hg : Ref ns g) (hh : Ref ns h) :
    Calls Try.prog 46 [.pointer (some ⟨m, 0, none⟩), .int .i64 (f : Nat), .int .i64 (g : Nat), .int .i64 (h : Nat)].toArray w1 fun e w' => ∃ x, e = .returned x ∧ ItPost m n lim ns f g h B w F x w' := by
  refine enter Try.func46 mixed low46 (Nat.le_of_ble_eq_true rfl) ?_
  simp only [L46]
  have hl : Lcl (Star (MgrA m n lim ns) B) := Lcl.mgr.star hB
  have h1 := lit_ints (xs := [(f : Int), (g : Int), (h : Int)]) (cs := #[.int .i64 f, .int .i64 g, .int .i64 h]) hl hA rfl (by simp) rfl
  simp [rowOf]
  refine cl_of (check_spec m n lim ns _ [(f : Int), (g : Int), (h : Int)] _ (MgrA.rd h1.drop) hb h1.own.vw (by simp)) ?_
  rintro v w2 ⟨rfl, k2⟩
  have h2 := (h1.drop).kp0 hl k2
  have : [(f : Int), (g : Int), (h : Int)].all (refB ns) = true := by
    unfold Ref at hf hg hh
    simp [refB]; omega
  rw [this]
  simp [chkV]
  have h3 := (h2.newmap (ek := p3V) (ev := natV) (ok := p3_ok) hl).rot
  have hp := two_mono (show n - mtv n ns f g h ≤ 40 by omega)
  refine cl_of (ite_aux m n lim _ w F n f g h ns [] B _ hB hw hb hf hg hh (by omega) (fun q hq => by cases hq) (by simp; omega) h3) ?_
  rintro _ w4 ⟨r, ns', M', rfl, hi, h4⟩
  cases r with
  | none => simp [optV, noV, errV]; exact ⟨none, ns', M', rfl, hi, h4.by (Imp.un Imp.dr)⟩
  | some x => simp [optV, okV]; exact ⟨some x, ns', M', rfl, hi, h4.by (Imp.un Imp.dr)⟩
end Go.Proofs.YtkojilpjpdpmaaaR
end
section
set_option maxRecDepth 100000
set_option linter.unusedSimpArgs false
set_option linter.unusedVariables false
namespace Go.Proofs.YtkojilpjpdpmaaaR
open Go Go.W Go.Bd Go.Maps
/-! ### Functions with variables changed -/
def ChPost (m n lim : Nat) (σ : (Nat → Bool) → Nat → Bool) (ns : Ns) (f b : Nat) (B : Asr) (w : World) (F : List Nat) (v : Value) (w' : World) : Prop :=
  ∃ r ns' M', v = optV r ∧ ChOk n lim σ ns f r ns' M' ∧ At w F (Star (MgrA m n lim ns') (Star (MemB b M') B)) w'
set_option maxHeartbeats 4000000 in
theorem change_res (m n lim b v0 : Nat) (bv : Bool) (w : World) (F : List Nat) : ∀ (d f : Nat) (ns : Ns) (M : Mem1) (B : Asr) (w1 : World), Lcl B → Wf n ns → Bnd n lim ns → Ref ns f → f ≤ d → Go.Bd.MemC (fun a => upd a v0 bv) ns M →
    At w F (Star (MgrA m n lim ns) (Star (MemB b M) B)) w1 →
    Calls Try.prog 59 [.pointer (some ⟨m, 0, none⟩), .int .i64 (f : Nat), .int .i64 (v0 : Nat), .int .i64 (if bv then 1 else 0), .slice none 0 0, .map (some b)].toArray w1 fun e w' => ∃ v, e = .returned v ∧ ChPost m n lim (fun a => upd a v0 bv) ns f b B w F v w' := by
  intro d
  induction d using Nat.strongRecOn with
  | ind d ih =>
  intro f ns M B w1 hB hw hb hf hd hM hA
  obtain ⟨hbn, hbl, hbs⟩ := hb
  have hb' : Bnd n lim ns := ⟨hbn, hbl, hbs⟩
  have hLV : Lcl B := hB
  have hLX : Lcl (Star (MgrA m n lim ns) (Star (MemB b M) B)) := Lcl.mgr.star (Lcl.map.star hLV)
  have hrf : f ≤ 1048578 := by unfold Ref at hf; omega
  refine enter Try.func59 mixed low59 (Nat.le_of_ble_eq_true rfl) ?_
  simp only [L59]
  by_cases h2 : f < 2
  · have h2' : (f : Int) < 2 := by omega
    simp [h2']
    exact ⟨some f, ns, M, rfl, c_const hw hbs hM hf h2, hA⟩
  have h2' : ¬ (f : Int) < 2 := by omega
  have hf2 : 2 ≤ f := by omega
  simp [h2']
  refine MapM.look2 (x := f) hA.drop.map keyI Try.underlying100 zint (show i64ok f by unfold i64ok; omega) ?_
  cases hgm : getM M f with
  | some r =>
    simp [natV]
    exact ⟨some r, ns, M, rfl, c_known hw hbs hM (getM_in hgm), hA⟩
  | none =>
  simp
  refine cl_of (at_spec m n lim f ns w1 (MgrA.rd hA) hb' hf) ?_
  rintro v w2 ⟨rfl, k2⟩
  have h3 := (hA.kp0 hLX k2).alloc (.cells #[.int .i64 0, .int .i64 0, .int .i64 0] 90) hLX
  simp [ndV, en_len]
  refine h3.st hLX (by simp [en, ints]) (by simp [en, ints]) fun w4 h4 => ?_
  have e3 : ∀ d : Nd, wrAt #[.int .i64 0, .int .i64 0, .int .i64 0] 0 (en d) = (en d).toArray := fun d => by simp [en, ints]
  rw [e3] at h4
  obtain ⟨t, ht⟩ : ∃ t, t = w2.heap.size := ⟨_, rfl⟩
  rw [← ht] at h4 ⊢
  have h5 := h4.tor3
  have hLT : Lcl (Star (ObjA t (.cells (en (at_ n ns f)).toArray 90 (0, 0))) B) := Lcl.obj.star hB
  have hot := h4.obj
  have hon := h4.obj
  simp [en, ints] at hon
  have l1 := hw.lt_low hf2 hf
  have l2 := hw.lt_high hf2 hf
  have tvn := hw.tv_var hf2 hf
  have etv : tv n ns f = (at_ n ns f).v := rfl
  have brl : (at_ n ns f).low ≤ 1048578 := by omega
  have brh : (at_ n ns f).high ≤ 1048578 := by omega
  by_cases hne : tv n ns f = v0
  · simp [cell_blk hot, en, ints, ← etv, hne]
    have hch := c_hit (cap := lim) (b := bv) hw hbs (M := M) (by rw [hne]; exact hM) hf hf2
    rw [hne] at hch
    cases bv with
    | true =>
      simp [rowOf, cell_blk alloc_new]
      exact ⟨some (at_ n ns f).high, ns, M, rfl, hch, (h4.drop).kp0 hLX ((Kp.refl _ _).alloc _)⟩
    | false =>
      simp [rowOf, cell_blk alloc_new]
      exact ⟨some (at_ n ns f).low, ns, M, rfl, hch, (h4.drop).kp0 hLX ((Kp.refl _ _).alloc _)⟩
  have hne' : ((tv n ns f : Nat) : Int) ≠ v0 := by omega
  simp [cell_blk hot, en, ints, ← etv, hne, hne', e_eq]
  refine cl_of (ih (d - 1) (by omega) (at_ n ns f).low ns M _ w4 hLT hw hb' (hw.ref_low hf) (by omega) hM h5) ?_
  rintro _ w6 ⟨r1, ns1, M1, rfl, hl, h6⟩
  have drp : ∀ {nsx : Ns} {Mx : Mem1} {wx : World}, At w F (Star (MgrA m n lim nsx) (Star (MemB b Mx) (Star (ObjA t (.cells (en (at_ n ns f)).toArray 90 (0, 0))) B))) wx → At w F (Star (MgrA m n lim nsx) (Star (MemB b Mx) B)) wx := fun h => h.by (Imp.un (Imp.un Imp.dr))
  cases r1 with
  | none =>
    simp [optV, noV, errV]
    exact ⟨none, ns1, M1, rfl, c_low hw hf hf2 hl, drp h6⟩
  | some l =>
  have hw1 := hl.ext.wf
  have hb1 : Bnd n lim ns1 := ⟨hbn, hbl, hl.lim⟩
  have hot := h6.drop.drop.obj
  simp [optV, okV, cell_blk hot, en, ints]
  refine cl_of (ih (d - 1) (by omega) (at_ n ns f).high ns1 M1 _ w6 hLT hw1 hb1 (hl.ext.ref (hw.ref_high hf)) (by omega) hl.mem h6) ?_
  rintro _ w7 ⟨r2, ns2, M2, rfl, hh, h7⟩
  cases r2 with
  | none =>
    simp [optV, noV, errV]
    exact ⟨none, ns2, M2, rfl, c_high hw hf hf2 hl hh, drp h7⟩
  | some h =>
  have hpre := CPre.res (b := bv) hw hf hf2 hne
  have hm := c_mid hpre hl hh
  have hw2 := hm.ext.wf
  have hb2 : Bnd n lim ns2 := ⟨hbn, hbl, hm.lim⟩
  have hl2 := hm.lim
  have hot := h7.drop.drop.obj
  have hlr : l ≤ 2000000 := by have := hm.rl; unfold Ref at this; omega
  have hhr : h ≤ 2000000 := by have := hm.rk; unfold Ref at this; omega
  have hml : M2.length ≤ 1048578 := mem1_small (ns := ns2) (N := 1048578) (by omega) (fun q hq => (hm.mem q hq).1) (MapM.nodup h7.drop.map)
  simp [optV, okV, cell_blk hot, en, ints]
  refine cl_of (make_spec m n lim ns2 (tv n ns f) l h (Lcl.map.star hLT) h7 hb2 (by omega) hlr hhr) ?_
  rintro _ w9 ⟨rfl, h9⟩
  cases hk : (mkF lim ns2 (tv n ns f) l h).1 with
  | none =>
    simp [optV, noV, errV]
    exact ⟨none, _, M2, rfl, c_full hpre hm hk, drp h9⟩
  | some x =>
    simp [optV, okV]
    refine At.put (x := f) (v := x) (Lcl.mgr.star hLT) h9.rot keyI Try.underlying100 (show i64ok f by unfold i64ok; omega) (by unfold maxLen; omega) fun w12 h12 => ?_
    simp
    exact ⟨some x, _, _, rfl, c_done hpre hm hk (fun q hq => putM_mem hq), drp h12.rot⟩
set_option maxHeartbeats 4000000 in
theorem change_ren (m n lim b : Nat) (v0 v1 : Int) (tov : Value) (xs : List Int) (S : Nat → Prop) (to : Nat → Nat) (htov : ∃ a k c, tov = .slice (some a) k c) (hto : ∀ i, S i → xs[i]? = some ((to i : Nat) : Int)) (hasc : Asc n S to) (w : World) (F : List Nat) : ∀ (d f : Nat) (ns : Ns) (M : Mem1) (B : Asr) (w1 : World), Lcl B → Wf n ns → Bnd n lim ns → Ref ns f → f ≤ d → Go.Bd.MemC (fun a i => a (to i)) ns M → (∀ y, Rch n ns f y → S (tv n ns y)) → (∀ w' F', B w' F' → Vw w' tov iv xs) →
    At w F (Star (MgrA m n lim ns) (Star (MemB b M) B)) w1 →
    Calls Try.prog 59 [.pointer (some ⟨m, 0, none⟩), .int .i64 (f : Nat), .int .i64 v0, .int .i64 v1, tov, .map (some b)].toArray w1 fun e w' => ∃ v, e = .returned v ∧ ChPost m n lim (fun a i => a (to i)) ns f b B w F v w' := by
  intro d
  induction d using Nat.strongRecOn with
  | ind d ih =>
  intro f ns M B w1 hB hw hb hf hd hM hS hR hA
  obtain ⟨hbn, hbl, hbs⟩ := hb
  have hb' : Bnd n lim ns := ⟨hbn, hbl, hbs⟩
  have hLV : Lcl B := hB
  have hLX : Lcl (Star (MgrA m n lim ns) (Star (MemB b M) B)) := Lcl.mgr.star (Lcl.map.star hLV)
  have hrf : f ≤ 1048578 := by unfold Ref at hf; omega
  refine enter Try.func59 mixed low59 (Nat.le_of_ble_eq_true rfl) ?_
  simp only [L59]
  by_cases h2 : f < 2
  · have h2' : (f : Int) < 2 := by omega
    simp [h2']
    exact ⟨some f, ns, M, rfl, c_const hw hbs hM hf h2, hA⟩
  have h2' : ¬ (f : Int) < 2 := by omega
  have hf2 : 2 ≤ f := by omega
  simp [h2']
  refine MapM.look2 (x := f) hA.drop.map keyI Try.underlying100 zint (show i64ok f by unfold i64ok; omega) ?_
  cases hgm : getM M f with
  | some r =>
    simp [natV]
    exact ⟨some r, ns, M, rfl, c_known hw hbs hM (getM_in hgm), hA⟩
  | none =>
  simp
  refine cl_of (at_spec m n lim f ns w1 (MgrA.rd hA) hb' hf) ?_
  rintro v w2 ⟨rfl, k2⟩
  have h3 := (hA.kp0 hLX k2).alloc (.cells #[.int .i64 0, .int .i64 0, .int .i64 0] 90) hLX
  simp [ndV, en_len]
  refine h3.st hLX (by simp [en, ints]) (by simp [en, ints]) fun w4 h4 => ?_
  have e3 : ∀ d : Nd, wrAt #[.int .i64 0, .int .i64 0, .int .i64 0] 0 (en d) = (en d).toArray := fun d => by simp [en, ints]
  rw [e3] at h4
  obtain ⟨t, ht⟩ : ∃ t, t = w2.heap.size := ⟨_, rfl⟩
  rw [← ht] at h4 ⊢
  have h5 := h4.tor3
  have hLT : Lcl (Star (ObjA t (.cells (en (at_ n ns f)).toArray 90 (0, 0))) B) := Lcl.obj.star hB
  have hot := h4.obj
  have l1 := hw.lt_low hf2 hf
  have l2 := hw.lt_high hf2 hf
  have tvn := hw.tv_var hf2 hf
  have etv : tv n ns f = (at_ n ns f).v := rfl
  have brl : (at_ n ns f).low ≤ 1048578 := by omega
  have brh : (at_ n ns f).high ≤ 1048578 := by omega
  obtain ⟨ta, tk, tc, rfl⟩ := htov
  have hRT : ∀ w' F', Star (ObjA t (.cells (en (at_ n ns f)).toArray 90 (0, 0))) B w' F' → Vw w' (.slice (some ta) tk tc) iv xs := fun w' F' h => by
    obtain ⟨_, Fb, _, h2, _⟩ := h
    exact hR _ _ h2
  simp [cell_blk hot, en, ints]
  refine cl_of (ih (d - 1) (by omega) (at_ n ns f).low ns M _ w4 hLT hw hb' (hw.ref_low hf) (by omega) hM (fun y hy => hS y (.low hf2 hy)) hRT h5) ?_
  rintro _ w6 ⟨r1, ns1, M1, rfl, hl, h6⟩
  have drp : ∀ {nsx : Ns} {Mx : Mem1} {wx : World}, At w F (Star (MgrA m n lim nsx) (Star (MemB b Mx) (Star (ObjA t (.cells (en (at_ n ns f)).toArray 90 (0, 0))) B))) wx → At w F (Star (MgrA m n lim nsx) (Star (MemB b Mx) B)) wx := fun h => h.by (Imp.un (Imp.un Imp.dr))
  cases r1 with
  | none =>
    simp [optV, noV, errV]
    exact ⟨none, ns1, M1, rfl, c_low hw hf hf2 hl, drp h6⟩
  | some l =>
  have hw1 := hl.ext.wf
  have hb1 : Bnd n lim ns1 := ⟨hbn, hbl, hl.lim⟩
  have hot := h6.drop.drop.obj
  simp [optV, okV, cell_blk hot, en, ints]
  refine cl_of (ih (d - 1) (by omega) (at_ n ns f).high ns1 M1 _ w6 hLT hw1 hb1 (hl.ext.ref (hw.ref_high hf)) (by omega) hl.mem (sup_ext hw hl.ext (hw.ref_high hf) (fun y hy => hS y (.high hf2 hy))) hRT h6) ?_
  rintro _ w7 ⟨r2, ns2, M2, rfl, hh, h7⟩
  cases r2 with
  | none =>
    simp [optV, noV, errV]
    exact ⟨none, ns2, M2, rfl, c_high hw hf hf2 hl hh, drp h7⟩
  | some h =>
  have hpre := CPre.ren hw hf hf2 hS hasc
  have hm := c_mid hpre hl hh
  have hw2 := hm.ext.wf
  have hb2 : Bnd n lim ns2 := ⟨hbn, hbl, hm.lim⟩
  have hl2 := hm.lim
  have hot := h7.drop.drop.obj
  have hlr : l ≤ 2000000 := by have := hm.rl; unfold Ref at this; omega
  have hhr : h ≤ 2000000 := by have := hm.rk; unfold Ref at this; omega
  have hml : M2.length ≤ 1048578 := mem1_small (ns := ns2) (N := 1048578) (by omega) (fun q hq => (hm.mem q hq).1) (MapM.nodup h7.drop.map)
  obtain ⟨_, hq, _⟩ := h7.drop.drop.drop.ex
  have hvw := hR _ _ hq
  have sv := hto _ (hS f (.self hf2))
  have un := hpre.un
  have hix : (tv n ns f) < xs.length := (List.getElem?_eq_some_iff.1 sv).1
  rw [etv] at sv un hix
  have hcv := iv_cell hvw sv
  have etk : tk = xs.length := by
    rcases hvw with ⟨h1, _⟩ | ⟨a, cap, h1, _⟩
    · cases h1
    · injection h1
  have hlt : ((at_ n ns f).v : Int) < tk := by omega
  have hlt' : (at_ n ns f).v < tk := by omega
  simp [Value.adr] at hcv
  simp [optV, okV, cell_blk hot, en, ints, hcv, hlt, hlt']
  rw [← etv]
  refine cl_of (make_spec m n lim ns2 (to (tv n ns f)) l h (Lcl.map.star hLT) h7 hb2 (by have := hpre.un; omega) hlr hhr) ?_
  rintro _ w9 ⟨rfl, h9⟩
  cases hk : (mkF lim ns2 (to (tv n ns f)) l h).1 with
  | none =>
    simp [optV, noV, errV]
    exact ⟨none, _, M2, rfl, c_full hpre hm hk, drp h9⟩
  | some x =>
    simp [optV, okV]
    refine At.put (x := f) (v := x) (Lcl.mgr.star hLT) h9.rot keyI Try.underlying100 (show i64ok f by unfold i64ok; omega) (by unfold maxLen; omega) fun w12 h12 => ?_
    simp
    exact ⟨some x, _, _, rfl, c_done hpre hm hk (fun q hq => putM_mem hq), drp h12.rot⟩
end Go.Proofs.YtkojilpjpdpmaaaR
end
section
set_option maxRecDepth 100000
set_option linter.unusedSimpArgs false
set_option linter.unusedVariables false
namespace Go.Proofs.YtkojilpjpdpmaaaR
open Go Go.W Go.Bd Go.Maps
def ResPost (m n lim v0 : Nat) (bv : Bool) (ns : Ns) (f : Nat) (B : Asr) (w : World) (F : List Nat) (v : Value) (w' : World) : Prop :=
  ∃ r ns' M', v = optV r ∧ ChOk n lim (fun a => upd a v0 bv) ns f r ns' M' ∧ At w F (Star (MgrA m n lim ns') B) w'
theorem restrict_spec {w w1 : World} {F : List Nat} {B : Asr} (m n lim : Nat) (ns : Ns) (f v0 : Nat) (bv : Bool) (hB : Lcl B) (hA : At w F (Star (MgrA m n lim ns) B) w1) (hw : Wf n ns) (hb : Bnd n lim ns) (hf : Ref ns f) (hv : v0 < n) :
    Calls Try.prog 45 [.pointer (some ⟨m, 0, none⟩), .int .i64 (f : Nat), .int .i64 (v0 : Nat), .bool bv].toArray w1 fun e w' => ∃ x, e = .returned x ∧ ResPost m n lim v0 bv ns f B w F x w' := by
  refine enter Try.func45 mixed low45 (Nat.le_of_ble_eq_true rfl) ?_
  simp only [L45]
  have hl : Lcl (Star (MgrA m n lim ns) B) := Lcl.mgr.star hB
  simp [rowOf]
  refine cl_of (check_lit [(f : Int)] (MgrA.rd hA) hb rfl (by simp) rfl) ?_
  rintro u w2 ⟨rfl, k2⟩
  have h2 := hA.kp0 hl k2
  have hr : [(f : Int)].all (refB ns) = true := by
    unfold Ref at hf
    simp [refB]; omega
  rw [hr]
  simp [chkV, rowOf]
  refine cl_of (checkVars_lit [(v0 : Int)] (MgrA.rd h2) rfl (by simp) rfl) ?_
  rintro u w3 ⟨rfl, k3⟩
  have h3 := h2.kp0 hl k3
  have hr2 : [(v0 : Int)].all (varB n) = true := by simp [varB]; omega
  rw [hr2]
  simp [chkV]
  have h4 := (h3.newmap (ek := natV) (ev := natV) (ok := i64ok) hl).rot
  have key := change_res m n lim w3.heap.size v0 bv w F f f ns [] B _ hB hw hb hf (Nat.le_refl _) (fun q hq => by cases hq) h4
  cases bv with
  | true =>
    simp
    refine cl_of key ?_
    rintro _ w4 ⟨r, ns', M', rfl, hc, h5⟩
    cases r with
    | none => simp [optV, noV, errV]; exact ⟨none, ns', M', rfl, hc, h5.by (Imp.un Imp.dr)⟩
    | some x => simp [optV, okV]; exact ⟨some x, ns', M', rfl, hc, h5.by (Imp.un Imp.dr)⟩
  | false =>
    simp
    refine cl_of key ?_
    rintro _ w4 ⟨r, ns', M', rfl, hc, h5⟩
    cases r with
    | none => simp [optV, noV, errV]; exact ⟨none, ns', M', rfl, hc, h5.by (Imp.un Imp.dr)⟩
    | some x => simp [optV, okV]; exact ⟨some x, ns', M', rfl, hc, h5.by (Imp.un Imp.dr)⟩
/-! ### The conjunction, quantified -/
def AePost (m n lim : Nat) (S : Nat → Nat → Prop) (xs : List Int) (vv : Value) (ns : Ns) (f g : Nat) (B : Asr) (w : World) (F : List Nat) (v : Value) (w' : World) : Prop :=
  ∃ r1 r ns1 ns' M', v = optV r ∧ BinOk n lim 0 S ns f g r1 ns1 ∧ (r1 = none → r = none ∧ ns' = ns1) ∧ (∀ y, r1 = some y → QOk n lim 1 (inB (insOf n xs)) ns1 y r ns' M') ∧ At w F (Star (MgrA m n lim ns') (Star (VwA vv iv xs) B)) w'
theorem andExists_spec {w w1 : World} {F : List Nat} {B : Asr} (m n lim : Nat) (ns : Ns) (f g : Nat) (S : Nat → Nat → Prop) (v : Value) (xs : List Int) (hB : Lcl B) (hA : At w F (Star (MgrA m n lim ns) (Star (VwA v iv xs) B)) w1) (hw : Wf n ns) (hb : Bnd n lim ns) (hf : Ref ns f) (hg : Ref ns g) (hC : Clo n 0 ns S) (hS : Sn 0 S f g)
    (hx : xs.length ≤ 1000000) (hv : xs.all (varB n) = true) :
    Calls Try.prog 44 [.pointer (some ⟨m, 0, none⟩), .int .i64 (f : Nat), .int .i64 (g : Nat), v].toArray w1 fun e w' => ∃ x, e = .returned x ∧ AePost m n lim S xs v ns f g B w F x w' := by
  refine enter Try.func44 mixed low44 (Nat.le_of_ble_eq_true rfl) ?_
  simp only [L44]
  have hLV : Lcl (Star (VwA v iv xs) B) := Lcl.vw.star hB
  have hl : Lcl (Star (MgrA m n lim ns) (Star (VwA v iv xs) B)) := Lcl.mgr.star hLV
  simp [rowOf]
  refine cl_of (check_lit [(f : Int), (g : Int)] (MgrA.rd hA) hb rfl (by simp) rfl) ?_
  rintro u w2 ⟨rfl, k2⟩
  have h2 := hA.kp0 hl k2
  have hr : [(f : Int), (g : Int)].all (refB ns) = true := by
    unfold Ref at hf hg
    simp [refB]; omega
  rw [hr]
  simp [chkV]
  refine cl_of (checkVars_spec m n lim ns v xs _ (MgrA.rd h2) h2.drop.vw hx) ?_
  rintro u w3 ⟨rfl, k3⟩
  have h3 := h2.kp0 hl k3
  rw [hv]
  simp [chkV]
  refine cl_of (and_of (binary_spec m n lim ns 0 f g S (by omega) hLV h3 hw hb hf hg hC hS) (by rintro _ _ ⟨r, _, rfl, _⟩; exact optV_tup r)) ?_
  rintro _ w4 ⟨r1, ns1, rfl, hbin, h4⟩
  cases r1 with
  | none =>
    simp [optV, noV, errV]
    exact ⟨none, none, ns1, ns1, [], rfl, hbin, fun _ => ⟨rfl, rfl⟩, fun y hy => (by cases hy), h4⟩
  | some y =>
    have hb1 : Bnd n lim ns1 := ⟨hb.hn, hb.hl, hbin.lim⟩
    simp [optV, okV]
    refine cl_of (exists_of (quantified_spec m n lim ns1 1 y v xs (by omega) hB h4 hbin.ext.wf hb1 (hbin.ok y rfl).1 hx hv) (by rintro _ _ ⟨r, _, _, rfl, _⟩; exact optV_tup r)) ?_
    rintro _ w5 ⟨r, ns2, M2, rfl, hq, h5⟩
    cases r with
    | none => simp [optV, noV, errV]; exact ⟨some y, none, ns1, ns2, M2, rfl, hbin, fun h => (by cases h), fun z hz => by cases hz; exact hq, h5⟩
    | some x => simp [optV, okV]; exact ⟨some y, some x, ns1, ns2, M2, rfl, hbin, fun h => (by cases h), fun z hz => by cases hz; exact hq, h5⟩
end Go.Proofs.YtkojilpjpdpmaaaR
end
section
set_option maxRecDepth 100000
set_option linter.unusedSimpArgs false
set_option linter.unusedVariables false
namespace Go.Proofs.YtkojilpjpdpmaaaR
open Go Go.W Go.Bd Go.Maps
/-! ### Renaming -/
def tgt (xs : List Int) (v : Int) : Int := xs.getD v.toNat 0
def RenBad1 (n : Nat) (xs L : List Int) : Prop := xs.length ≠ n ∨ ∃ v ∈ L, tgt xs v < 0 ∨ (n : Int) ≤ tgt xs v
def RenBad2 (xs L : List Int) : Prop := ∃ i a b, L[i]? = some a ∧ L[i + 1]? = some b ∧ tgt xs b ≤ tgt xs a
def RenPost (m n lim : Nat) (xs : List Int) (ns : Ns) (f : Nat) (B : Asr) (w : World) (F : List Nat) (v : Value) (w' : World) : Prop :=
  ∃ L, SupP n ns f L ∧ ((RenBad1 n xs L ∧ v = noV 1 ∧ At w F (Star (MgrA m n lim ns) B) w') ∨ (¬ RenBad1 n xs L ∧ RenBad2 xs L ∧ v = noV 7 ∧ At w F (Star (MgrA m n lim ns) B) w') ∨
    (¬ RenBad1 n xs L ∧ ¬ RenBad2 xs L ∧ ∃ r ns' M', v = optV r ∧ ChOk n lim (fun a i => a (tgt xs i).toNat) ns f r ns' M' ∧ At w F (Star (MgrA m n lim ns') B) w'))
/-- Strictly ascending where neighbours are. -/
theorem asc_of {n : Nat} {xs L : List Int} (hL : L.Pairwise (· < ·)) (h1 : ¬ RenBad1 n xs L) (h2 : ¬ RenBad2 xs L) : Asc n (fun i => (i : Int) ∈ L) (fun i => (tgt xs i).toNat) := by
  have rng : ∀ v ∈ L, 0 ≤ tgt xs v ∧ tgt xs v < n := fun v hv => by
    refine ⟨?_, ?_⟩
    · rcases Decidable.em (tgt xs v < 0) with h | h
      · exact absurd (.inr ⟨v, hv, .inl h⟩) h1
      · omega
    · rcases Decidable.em (tgt xs v < n) with h | h
      · exact h
      · exact absurd (.inr ⟨v, hv, .inr (by omega)⟩) h1
  have stp : ∀ i a b, L[i]? = some a → L[i + 1]? = some b → tgt xs a < tgt xs b := fun i a b ha hb => by
    rcases Decidable.em (tgt xs a < tgt xs b) with h | h
    · exact h
    · exact absurd ⟨i, a, b, ha, hb, by omega⟩ h2
  have far : ∀ (d i : Nat) (a b : Int), L[i]? = some a → L[i + d + 1]? = some b → tgt xs a < tgt xs b := by
    intro d
    induction d with
    | zero => intro i a b ha hb; exact stp i a b ha hb
    | succ d ih =>
      intro i a b ha hb
      have hl := (List.getElem?_eq_some_iff.1 hb).1
      have hc : L[i + d + 1]? = some (L[i + d + 1]'(by omega)) := List.getElem?_eq_getElem _
      exact Int.lt_trans (ih i a _ ha hc) (stp (i + d + 1) _ b hc (by rw [show i + d + 1 + 1 = i + (d + 1) + 1 by omega]; exact hb))
  refine ⟨fun u hu => by have := rng _ hu; show (tgt xs u).toNat < n; omega, fun u v hu hv huv => ?_⟩
  obtain ⟨i, hi⟩ := List.getElem?_of_mem hu
  obtain ⟨j, hj⟩ := List.getElem?_of_mem hv
  have hij : i < j := by
    rcases Nat.lt_trichotomy i j with h | h | h
    · exact h
    · subst h; rw [hi] at hj; have := Option.some.inj hj; omega
    · exfalso
      obtain ⟨hil, hiv⟩ := List.getElem?_eq_some_iff.1 hi
      obtain ⟨hjl, hjv⟩ := List.getElem?_eq_some_iff.1 hj
      have := List.pairwise_iff_getElem.1 hL j i hjl hil h
      rw [hiv, hjv] at this
      omega
  have := far (j - i - 1) i _ _ hi (by rw [show i + (j - i - 1) + 1 = j by omega]; exact hj)
  have := rng _ hu; have := rng _ hv
  show (tgt xs u).toNat < (tgt xs v).toNat
  omega
set_option maxHeartbeats 1000000 in
theorem rename_spec {w w1 : World} {F : List Nat} {B : Asr} (m n lim : Nat) (ns : Ns) (f : Nat) (tov : Value) (xs : List Int) (hB : Lcl B) (hA : At w F (Star (MgrA m n lim ns) B) w1) (hw : Wf n ns) (hb : Bnd n lim ns) (hf : Ref ns f)
    (hR : ∀ w' F', B w' F' → Vw w' tov iv xs) (hx : xs.length ≤ 1000000) :
    Calls Try.prog 28 [.pointer (some ⟨m, 0, none⟩), .int .i64 (f : Nat), tov].toArray w1 fun e w' => ∃ x, e = .returned x ∧ RenPost m n lim xs ns f B w F x w' := by
  have hbn := hb.hn
  have hbl := hb.hl
  have hbs := hb.hs
  refine enter Try.func28 mixed low28 (Nat.le_of_ble_eq_true rfl) ?_
  simp only [L28]
  have hl : Lcl (Star (MgrA m n lim ns) B) := Lcl.mgr.star hB
  have vw : ∀ {w'}, At w F (Star (MgrA m n lim ns) B) w' → Vw w' tov iv xs := fun h => by
    obtain ⟨_, hq, _⟩ := h.drop.ex
    exact hR _ _ hq
  simp
  refine cl_of (support_spec m n lim ns f hB hA hw hb hf) ?_
  rintro _ w2 ⟨v, L, rfl, hS, h2⟩
  have hLo : Lcl (Star (OwnA v 3 1 iv L) (Star (MgrA m n lim ns) B)) := Lcl.own.star hl
  have hmem : ∀ x ∈ L, 0 ≤ x ∧ x < n := fun x hx => by
    obtain ⟨y, hy, rfl⟩ := (hS.2 x).1 hx
    have := hw.tv_var hy.ge (hy.ref hw hf)
    omega
  have hLlen : L.length ≤ 1000000 := by
    have hnd : (L.map Int.toNat).Nodup := by
      rw [List.nodup_iff_pairwise_ne, List.pairwise_map]
      refine List.Pairwise.imp_of_mem ?_ hS.1
      intro a b ha hb hab
      have := hmem a ha; have := hmem b hb
      omega
    have := nodup_len _ (List.range n) hnd (fun x hx => by
      obtain ⟨y, hy, rfl⟩ := List.mem_map.1 hx
      have := hmem y hy
      exact List.mem_range.2 (by omega))
    simp at this; omega
  obtain ⟨nv, b, ho, _, _⟩ := MgrA.rd h2.drop
  unfold mgrO at ho
  simp [(vw h2.drop).len, cell_blk ho]
  by_cases hlen : xs.length = n
  case neg =>
    have : ((xs.length : Int) != n) = true := by simp; omega
    simp [this]
    exact ⟨L, hS, .inl ⟨.inl hlen, rfl, h2.drop⟩⟩
  have : ((xs.length : Int) != n) = false := by simp; omega
  simp [this, h2.own.vw.len]
  refine range_loop (n := L.length) (by omega) (fun k ρ w' => ρ 0 = .pointer (some ⟨m, 0, none⟩) ∧ ρ 1 = .int .i64 (f : Nat) ∧ ρ 2 = tov ∧ ρ 8 = v ∧ ρ 30 = v ∧ (∀ j x, j < k → L[j]? = some x → 0 ≤ tgt xs x ∧ tgt xs x < n) ∧
      At w F (Star (OwnA v 3 1 iv L) (Star (MgrA m n lim ns) B)) w') (by simp) (by simp)
    ⟨by simp, by simp, by simp, by simp, by simp, by simp, h2⟩ (by decide) (fun _ _ _ _ h => by simpa using h) (fun _ _ _ _ h => by simpa using h) ?_ ?_
  · rintro k ρ w3 hk hc hlim ⟨g0, g1, g2, g8, g30, hall, h3⟩
    have ek : L[k]? = some L[k] := List.getElem?_eq_getElem hk
    obtain ⟨x, hxe⟩ : ∃ x, x = L[k] := ⟨_, rfl⟩
    rw [← hxe] at ek
    obtain ⟨x0, x1⟩ := hmem x (List.mem_of_getElem? ek)
    have hs := h3.own.vw
    have ht := vw h3.drop
    obtain ⟨nv, b, ho, _, _⟩ := MgrA.rd h3.drop
    unfold mgrO at ho
    have hxl : x.toNat < xs.length := by omega
    have ex : xs[x.toNat]? = some (tgt xs x) := by simp [tgt, List.getD, List.getElem?_eq_getElem hxl]
    have h4 := h3.drew hLo
    simp (disch := omega) [g0, g2, g30, hc, hs.idx, iv_cell hs ek, ht.idx, iv_cell ht ex, cell_blk ho]
    by_cases c1 : tgt xs x < 0
    · simp [c1]
      exact ⟨L, hS, .inl ⟨.inr ⟨x, List.mem_of_getElem? ek, .inl c1⟩, rfl, h4.drop⟩⟩
    by_cases c2 : (n : Int) ≤ tgt xs x
    · simp (disch := omega) [c1, c2, g0, g2, ht.idx, iv_cell ht ex, cell_blk ho]
      exact ⟨L, hS, .inl ⟨.inr ⟨x, List.mem_of_getElem? ek, .inr c2⟩, rfl, h4.drop⟩⟩
    · simp (disch := omega) [c1, c2, ht.idx, iv_cell ht ex, cell_blk ho, g0, g1, g2, g8, g30, hc, hlim]
      refine ⟨fun j y hj hy => ?_, h4⟩
      rcases Nat.lt_or_ge j k with h5 | h5
      · exact hall j y h5 hy
      · have : j = k := by omega
        subst this
        rw [ek] at hy
        rw [← Option.some.inj hy]; omega
  rintro ρ w3 ⟨g0, g1, g2, g8, g30, hall, h3⟩
  have nb1 : ¬ RenBad1 n xs L := by
    rintro (h | ⟨v, hv, h⟩)
    · exact h hlen
    · obtain ⟨j, hj⟩ := List.getElem?_of_mem hv
      have := hall j v (List.getElem?_eq_some_iff.1 hj).1 hj
      omega
  simp
  refine loop_inv (fun q ρ w' => ∃ k, q = L.length - k ∧ 1 ≤ k ∧ k ≤ L.length + 1 ∧ ρ 12 = .int .i64 (k : Nat) ∧ ρ 0 = .pointer (some ⟨m, 0, none⟩) ∧ ρ 1 = .int .i64 (f : Nat) ∧ ρ 2 = tov ∧ ρ 8 = v ∧ (∀ i a b, i + 1 < k → L[i]? = some a → L[i + 1]? = some b → tgt xs a < tgt xs b) ∧
      At w F (Star (OwnA v 3 1 iv L) (Star (MgrA m n lim ns) B)) w') (L.length - 1)
    ⟨1, rfl, Nat.le_refl _, by omega, by simp, by simp [g0], by simp [g1], by simp [g2], by simp [g8], by omega, h3⟩ ?_
  rintro q ρ w4 ⟨k, rfl, hk1, hkl, c12, g0, g1, g2, g8, hstp, h4⟩
  have hs := h4.own.vw
  by_cases hk : k < L.length
  · have hk' : (k : Int) < L.length := by omega
    have ek : L[k]? = some L[k] := List.getElem?_eq_getElem hk
    have ej : L[k - 1]? = some (L[k - 1]'(by omega)) := List.getElem?_eq_getElem _
    obtain ⟨x, hxe⟩ : ∃ x, x = L[k] := ⟨_, rfl⟩
    obtain ⟨y, hye⟩ : ∃ y, y = L[k - 1]'(by omega) := ⟨_, rfl⟩
    rw [← hxe] at ek
    rw [← hye] at ej
    obtain ⟨x0, x1⟩ := hmem x (List.mem_of_getElem? ek)
    obtain ⟨y0, y1⟩ := hmem y (List.mem_of_getElem? ej)
    have ht := vw h4.drop
    have ex : xs[x.toNat]? = some (tgt xs x) := by simp [tgt, List.getD, List.getElem?_eq_getElem (show x.toNat < xs.length by omega)]
    have ey : xs[y.toNat]? = some (tgt xs y) := by simp [tgt, List.getD, List.getElem?_eq_getElem (show y.toNat < xs.length by omega)]
    have ekm : (k : Int) - 1 = ((k - 1 : Nat) : Int) := by omega
    have h5 := h4.drew hLo
    simp (disch := omega) [c12, g2, g8, hs.len, hk', wrap_i64, ekm]
    simp (disch := omega) [c12, g2, g8, hs.len, hk', wrap_i64, hs.idx, iv_cell hs ej, iv_cell hs ek, ht.idx, iv_cell ht ex, iv_cell ht ey]
    by_cases c1 : tgt xs x ≤ tgt xs y
    · simp [c1]
      exact ⟨L, hS, .inr (.inl ⟨nb1, ⟨k - 1, y, x, ej, by rw [show k - 1 + 1 = k by omega]; exact ek, c1⟩, rfl, h5.drop⟩)⟩
    · simp (disch := omega) [c1, c12, wrap_i64]
      refine ⟨L.length - (k + 1), by omega, k + 1, rfl, by omega, by omega, by simp, g0, g1, g2, g8, fun i a b hi ha hb => ?_, h5⟩
      rcases Nat.lt_or_ge (i + 1) k with h6 | h6
      · exact hstp i a b h6 ha hb
      · have : i = k - 1 := by omega
        subst this
        rw [ej] at ha
        rw [show k - 1 + 1 = k by omega, ek] at hb
        rw [← Option.some.inj ha, ← Option.some.inj hb]; omega
  · have hk' : ¬ (k : Int) < L.length := by omega
    have nb2 : ¬ RenBad2 xs L := by
      rintro ⟨i, a, b, ha, hb, h⟩
      have hl := (List.getElem?_eq_some_iff.1 hb).1
      have := hstp i a b (by omega) ha hb
      omega
    have hasc := asc_of hS.1 nb1 nb2
    simp [c12, g8, hs.len, hk', g1]
    by_cases hf2 : f < 2
    · have hf2' : (f : Int) < 2 := by omega
      simp [hf2', g1]
      exact ⟨L, hS, .inr (.inr ⟨nb1, nb2, some f, ns, [], rfl, c_const hw hbs (fun q hq => by cases hq) hf hf2, h4.drop⟩)⟩
    · have hf2' : ¬ (f : Int) < 2 := by omega
      have ht := vw h4.drop
      have hn0 : 0 < n := by have := hw.tv_var (show 2 ≤ f by omega) hf; omega
      have htov : ∃ a k c, tov = .slice (some a) k c := by
        rcases ht with ⟨_, h1⟩ | ⟨a, cap, h1, _⟩
        · rw [h1] at hlen; simp at hlen; omega
        · exact ⟨a, _, _, h1⟩
      have hto : ∀ i : Nat, (i : Int) ∈ L → xs[i]? = some (((tgt xs i).toNat : Nat) : Int) := fun i hi => by
        have h6 := hmem _ hi
        have h7 : ¬ (tgt xs i < 0) := fun h => nb1 (.inr ⟨_, hi, .inl h⟩)
        have e1 : tgt xs i = xs.getD i 0 := by simp [tgt]
        rw [show (((tgt xs i).toNat : Nat) : Int) = tgt xs i by omega, e1]
        simp [List.getD, List.getElem?_eq_getElem (show i < xs.length by omega)]
      simp [hf2', g0, g1, g2]
      have h6 := (h4.drop.newmap (ek := natV) (ev := natV) (ok := i64ok) hl).rot
      refine cl_of (change_ren m n lim w4.heap.size 0 0 tov xs (fun i => (i : Int) ∈ L) (fun i => (tgt xs i).toNat) htov hto hasc w F f f ns [] B _ hB hw hb hf (Nat.le_refl _) (fun q hq => by cases hq) (fun y hy => (hS.2 _).2 ⟨y, hy, rfl⟩) hR h6) ?_
      rintro _ w5 ⟨r, ns', M', rfl, hc, h7⟩
      cases r with
      | none => simp [optV, noV, errV]; exact ⟨L, hS, .inr (.inr ⟨nb1, nb2, none, ns', M', rfl, hc, h7.by (Imp.un Imp.dr)⟩)⟩
      | some x => simp [optV, okV]; exact ⟨L, hS, .inr (.inr ⟨nb1, nb2, some x, ns', M', rfl, hc, h7.by (Imp.un Imp.dr)⟩)⟩
end Go.Proofs.YtkojilpjpdpmaaaR
end
