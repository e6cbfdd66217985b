/-
  A part of the proofs of this seat's statements (BdLP); no conditions beyond those each theorem names.
-/
import Derived.Test.YtkojilpjpdpmaaaRBdDa
import Derived.Test.YtkojilpjpdpmaaaRBdW9
set_option maxRecDepth 100000
set_option linter.unusedSimpArgs false
set_option linter.unusedVariables false
namespace Go.Proofs.YtkojilpjpdpmaaaR
open Go Go.W Go.Bd Go.Maps
/-- What has been made can be read. -/
structure Rd (n m lim : Nat) (ns : Ns) (l : List Pr) (lv : Value) (w : World) : Prop where
  mgr : MgrF w m n lim ns
  bnd : Bnd n lim ns
  wf : Wf n ns
  vw : Vw w lv (prE n) l
  tbl : ∀ p ∈ l, Vw w p.u.1 bv (tab n p.f)
  mean : ∀ p ∈ l, Mean n ns p.ref p.f
theorem MaI.rd {w w1 : World} {m n lim len cnt : Nat} {lv : Value} (hn : n ≤ 5) (hl : lim ≤ 1048576) (h : MaI m n lim len cnt Emp w [] lv w1) : ∃ ns l, l.length = len ∧ 0 < len ∧ ns.length ≤ cnt ∧ Rd n m lim ns l lv w1 ∧ Kp [] w w1 := by
  obtain ⟨ns, l, ⟨h1, h2, h3, h4, h5⟩, hc, hA⟩ := h
  refine ⟨ns, l, h3, h4, hc, ⟨MgrA.rd hA, ⟨by omega, hl, h2⟩, h1, hA.drop.own.vw, fun p hp => ?_, h5⟩, hA.kp⟩
  exact hA.drop.drop.vws (p := (p.u, Go.Bd.tab n p.f)) (List.mem_map.2 ⟨p, hp, rfl⟩)
theorem Rd.kp {n m lim : Nat} {ns : Ns} {l : List Pr} {lv : Value} {w w' : World} (h : Rd n m lim ns l lv w) (k : Kp [] w w') : Rd n m lim ns l lv w' :=
  ⟨h.mgr.kp0 k, h.bnd, h.wf, h.vw.kp0 k, fun p hp => (h.tbl p hp).kp0 k, h.mean⟩
theorem Rd.same {n m lim : Nat} {ns : Ns} {l : List Pr} {lv : Value} {w : World} (h : Rd n m lim ns l lv w) {p q : Pr} (hp : p ∈ l) (hq : q ∈ l) : (((p.ref : Nat) : Int) == ((q.ref : Nat) : Int)) = decide (tab n p.f = tab n q.f) := by
  have := (h.mean p hp).eq_iff (h.mean q hq) h.wf
  rw [Bool.eq_iff_iff, beq_iff_eq, decide_eq_true_eq, ← this]
  omega
set_option maxHeartbeats 4000000 in
theorem law_plays {w : World} (x : Nat) (av : Value) (acts : List Act) (hx : x ≤ 255) (hv : Vw w av actE acts) (hok : ∀ x ∈ acts, ActOk x) :
    Calls Try.prog 6 [.int .u8 (x : Nat), av].toArray w fun e w' => ∃ x, e = .returned x ∧ x = .bool true ∧ Kp [] w w' := by
  refine enter Try.func6 mixed low6 (Nat.le_of_ble_eq_true rfl) ?_
  simp only [L6]
  obtain ⟨n, hnn⟩ : ∃ n, n = x % 6 := ⟨_, rfl⟩
  have ew : IntKind.i64.wrap (x : Int) = x := wrap_i64 (by omega) (by omega)
  have en : (x : Int).tmod 6 = (n : Int) := by rw [hnn, Int.tmod_eq_emod_of_nonneg (by omega)]; simp
  by_cases h30 : 30 < acts.length
  · have h30' : (30 : Int) < (acts.length : Nat) := by omega
    simp [hv.len, h30', h30]
    refine cl_of (awake_spec _) ?_
    rintro _ w2 ⟨rfl, k2⟩
    simp
    exact k2
  have h30' : ¬ (30 : Int) < (acts.length : Nat) := by omega
  simp [hv.len, h30', h30]
  refine cl_of (awake_spec _) ?_
  rintro _ w1 ⟨rfl, k1⟩
  simp [ew, en, h30', h30]
  have h1 : At w [] Emp w1 := (At.start rfl).kp0 .emp k1
  refine cl_of (new_spec n 1048576 .emp h1 (by omega) (by omega) (by omega)) ?_
  rintro _ w2 ⟨m, rfl, h2⟩
  simp
  refine cl_of (made_spec m n av acts .emp (by omega) h2 (fun w' k => hv.kp0 k) (by omega) hok) ?_
  rintro _ w3 ⟨lv, rfl, hM⟩
  obtain ⟨ns, l, hll, hl0, hcnt, R, k3⟩ := hM.rd (by omega) (by omega)
  simp [R.vw.len]
  refine range_loop (n := l.length) (by omega) (fun k ρ w' => ρ 6 = .pointer (some ⟨m, 0, none⟩) ∧ ρ 8 = lv ∧ ρ 41 = lv ∧ Kp [] w3 w') (by simp) (by simp)
    ⟨by simp, by simp, by simp, Kp.refl _ _⟩ (by decide) (fun _ _ _ _ h => by simpa using h) (fun _ _ _ _ h => by simpa using h) ?_ ?_
  · rintro k ρ w4 hk hc hlim ⟨g6, g8, g41, k4⟩
    have R4 := R.kp k4
    obtain ⟨p, hp⟩ : ∃ p, l[k]? = some p := ⟨_, List.getElem?_eq_getElem hk⟩
    have hpl := List.mem_of_getElem? hp
    have ec := R4.vw.cells (prE_len n) hp
    simp only [prE] at ec
    simp (disch := omega) [g41, hc, hlim, R4.vw.idx, ec]
    obtain ⟨pb, hpb⟩ : ∃ pb, pb = w4.heap.size := ⟨_, rfl⟩
    rw [← hpb]
    refine st_pair (w := w4) (F := []) (X := Emp) (x := p.ref) (u := p.u) .emp (At.start rfl) hpb fun w5 h5 => ?_
    have r5 := rd_pr h5.obj
    have R5 := R4.kp h5.kp
    simp [g6, g8, hc, hlim, r5]
    refine cl_of (means_spec (F := p.f) w5 R5.mgr R5.bnd R5.wf (by omega) (R5.mean p hpl) (R5.tbl p hpl)) ?_
    rintro _ w6 ⟨rfl, k6⟩
    have h6 := h5.kp0 (.star .obj .emp) k6
    have R6 := R4.kp h6.kp
    simp [g6, g8, hc, hlim]
    refine R6.vw.slice_hi (prE_len n) sl_47 (by omega) fun v' hv' _ => ?_
    have htl : (l.take k).length = k := by rw [List.length_take]; omega
    simp [hv'.len, htl]
    refine range_loop (n := k) (by omega) (fun j ρ w' => ρ 6 = .pointer (some ⟨m, 0, none⟩) ∧ ρ 8 = lv ∧ ρ 41 = lv ∧ ρ 43 = .int .i64 (k : Nat) ∧ ρ 42 = .int .i64 (l.length : Nat) ∧ ρ 11 = .pointer (some ⟨pb, 0, none⟩) ∧ ρ 54 = v' ∧ At w4 [] (Star (ObjA pb (prO n p.ref p.u.1)) Emp) w' ∧ Kp [] w6 w') (by simp) (by simp)
      ⟨by simp [g6], by simp [g8], by simp [g41], by simp [hc], by simp [hlim], by simp, by simp, h6, Kp.refl _ _⟩ (by decide) (fun _ _ _ _ h => by simpa using h) (fun _ _ _ _ h => by simpa using h) ?_ ?_
    · rintro j ρ w7 hj hcj hlj ⟨g6, g8, g41, g43, g42, g11, g54, h7, k7⟩
      have hv7 := hv'.kp0 k7
      have R7 := R4.kp h7.kp
      have htk : (l.take k).length = k := htl
      obtain ⟨q, hq⟩ : ∃ q, l[j]? = some q := ⟨_, List.getElem?_eq_getElem (by omega)⟩
      have hq2 : (l.take k)[j]? = some q := by rw [List.getElem?_take]; simp [hj, hq]
      have hql := List.mem_of_getElem? hq
      have ecj := hv7.cells (prE_len n) hq2
      simp only [prE] at ecj
      have hj2 : (j : Int) < (l.take k).length := by omega
      simp (disch := omega) [g54, hcj, hlj, hv7.idx, ecj]
      obtain ⟨qb, hqb⟩ : ∃ qb, qb = w7.heap.size := ⟨_, rfl⟩
      rw [← hqb]
      refine st_pair (w := w7) (F := []) (X := Emp) (x := q.ref) (u := q.u) .emp (At.start rfl) hqb fun w8 h8 => ?_
      have h9 := h7.kp0 (.star .obj .emp) h8.kp
      have R9 := R7.kp h8.kp
      have h8d := h8.drew (.star .obj .emp)
      have p0 := rd_pr0 h9.obj
      have p1 := rd_pr1 h9.obj
      have q0 := rd_pr0 h8.obj
      have q1 := rd_pr1 h8.obj
      have hsm := R9.same hpl hql
      simp [g11, p0, p1, q0, q1]
      refine ⟨?_, ?_, ?_, ?_⟩ <;>
      · refine cl_of (rSame_spec n _ _ p.f q.f w8.drew (by omega) (R9.tbl p hpl) (R9.tbl q hql)) ?_
        rintro _ wa ⟨rfl, ka⟩
        have h10 := h9.kp0 (.star .obj .emp) ((Kp.refl [] w8).drew.trans0 ka)
        have h11 := h8.kp0 (.star .obj .emp) ((Kp.refl [] w8).drew.trans0 ka)
        have p0 := rd_pr0 h10.obj
        have q0 := rd_pr0 h11.obj
        simp [g6, g8, g41, g43, g42, g11, g54, hcj, hlj, p0, q0, hsm]
        exact ⟨h10, k7.trans0 h11.kp⟩
    rintro ρ w7 ⟨g6, g8, g41, g43, g42, g11, g54, h7, k7⟩
    simp [g6, g8, g41, g43, g42]
    exact k4.trans0 h7.kp
  rintro ρ w4 ⟨g6, g8, g41, k4⟩
  simp [g6]
  refine cl_of (nodes_spec (R.kp k4).mgr) ?_
  rintro _ w5 ⟨rfl, k5⟩
  have := R.bnd.hs
  simp [natV]
  exact ⟨by omega, (k3.trans0 k4).trans0 k5⟩
end Go.Proofs.YtkojilpjpdpmaaaR
