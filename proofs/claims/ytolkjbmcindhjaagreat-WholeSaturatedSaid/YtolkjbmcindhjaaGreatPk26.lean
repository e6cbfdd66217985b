/-
  A part of the proof of this claim's statement (WhQ, WhV, WhW): plain theorems; no conditions beyond those each names.
-/
import Derived.Test.YtolkjbmcindhjaaGreatPk25
import Derived.Test.YtolkjbmcindhjaaGreatPk22
section
set_option maxRecDepth 100000
set_option linter.unusedSimpArgs false
set_option linter.unusedVariables false
namespace Go.Proofs.YtolkjbmcindhjaaGreat
open Go Go.W Go.Tk Go.Rx Go.Maps
theorem Pt.one {T : Nt} {a : Nat} (h : a < T.vars.length) : Pt T [a] := ⟨by simp, by simpa using h, by simp⟩
theorem Pt.two {T : Nt} {a b : Nat} (h1 : a < b) (h : b < T.vars.length) : Pt T [a, b] := ⟨by simpa using h1, fun v hv => by simp at hv; omega, by simp⟩
structure PtsP (T : Nt) (m : Nat) (l : List (List Nat)) : Prop where
  pt : ∀ p ∈ l, Pt T p
  len : l.length ≤ m
theorem PtsP.add {T : Nt} {m : Nat} {l : List (List Nat)} {p : List Nat} (h : PtsP T m l) (hp : Pt T p) : PtsP T (m + 1) (l ++ [p]) := ⟨fun q hq => by
  rcases List.mem_append.1 hq with h1 | h1
  · exact h.pt q h1
  · simp at h1; subst h1; exact hp, by have := h.len; simp; omega⟩
theorem PtsP.mono {T : Nt} {m m' : Nat} {l : List (List Nat)} (h : PtsP T m l) (hm : m ≤ m') : PtsP T m' l := ⟨h.pt, Nat.le_trans h.len hm⟩
/-- A pattern is appended to a list: its row is new. -/
theorem pt_append {w w1 : World} {F : List Nat} {B : Asr} {ov : Value} {p : List Nat} {outs : List (List Nat)} {cs : Array Value} {m : Nat} {KV : Kont (Value × World)} (hB : Lcl B) (h : At w F (Star (LLA ov 22 nE outs) B) w1) (hl : outs.length ≤ 100000)
    (hcs : cs.toList = p.flatMap nE) (hm : m = p.length) (hp : p.length ≤ 1000)
    (H : ∀ v' w2, At w F (Star (LLA v' 22 nE (outs ++ [p])) B) w2 → KV.run (v', w2)) :
    @efH Tryz.prog (Builtin.append_ #[30, 30] 30 [ov, .slice (some ⟨w1.heap.size + 1, 0, none⟩) 1 1].toArray) ((w1.alloc (.cells cs 3)).alloc (.cells #[.slice (some ⟨w1.heap.size, 0, none⟩) m m] 22)) KV := by
  have h1 := li_append hB (h.lit (xs := p) (enc := nE) (E := 3) (sz := 1) (Lcl.ll.star hB) hcs nE_len (by unfold maxLen; omega) hm) hl H
  have e : (w1.alloc (.cells cs 3)).heap.size = w1.heap.size + 1 := by simp
  rw [e] at h1
  exact h1
/-- The first k rows have their length. -/
def BH (n k : Nat) (ps : List (Cell1 × List Bool)) : Prop := ps.length = n ∧ ∀ (i : Nat) (p : Cell1 × List Bool), i < k → ps[i]? = some p → p.2.length = n
theorem BH.zero {n : Nat} {ps : List (Cell1 × List Bool)} (h : ps.length = n) : BH n 0 ps := ⟨h, fun i p hi => by omega⟩
theorem BH.set {n k : Nat} {ps : List (Cell1 × List Bool)} {c : Cell1} {l : List Bool} (h : BH n k ps) (hk : k < n) (hl : l.length = n) : BH n (k + 1) (ps.set k (c, l)) := ⟨by simp [h.1], fun i p hi hp => by
  have h1 := h.1
  by_cases e : k = i
  · subst e
    rw [List.getElem?_set_self (by omega)] at hp
    cases hp; exact hl
  · rw [List.getElem?_set_ne e] at hp
    exact h.2 i p (by omega) hp⟩
theorem BH.bt {n : Nat} {ps : List (Cell1 × List Bool)} (h : BH n n ps) : BT n ps := ⟨h.1, fun i p hp => h.2 i p (by have := (List.getElem?_eq_some_iff.1 hp).1; have := h.1; omega) hp⟩
def a9O (a : Nat × Nat) : Obj := .cells #[.int .i64 (a.1 : Nat), .int .i64 (a.2 : Nat), .int .i64 1] 98 (0, 0)
theorem st_a9 {a : Nat × Nat} {b : Nat} {w wa : World} {F : List Nat} {X : Asr} {KW : Kont World} (hX : Lcl X) (h : At w F X wa) (hb : b = wa.heap.size) (H : ∀ w2, At w F (Star (ObjA b (a9O a)) X) w2 → KW.run w2) :
    @stJ (wa.alloc (.cells #[.int .i64 0, .int .i64 0, .int .i64 0] 98 (0, 0))) ⟨b, 0, none⟩ [.int .i64 (a.1 : Nat), .int .i64 (a.2 : Nat), .int .i64 1] KW := by
  have h1 : At w F (Star (ObjA b (.cells #[.int .i64 0, .int .i64 0, .int .i64 0] 98 (0, 0))) X) (wa.alloc (.cells #[.int .i64 0, .int .i64 0, .int .i64 0] 98 (0, 0))) := by rw [hb]; exact h.alloc _ hX
  exact h1.st hX (by simp) (by simp) fun w2 h2 => H w2 (by simpa [a9O] using h2)
abbrev S1 (n tb : Nat) (T : Nt) (nv gv : Value) (ps : List (Cell1 × List Bool)) (gl : List Bool) : Asr := Star (OwnA gv 4 1 bE gl) (Star (TabA nv 96 4 bE ps) (FrN T tb))
theorem lcl_s1 {n tb : Nat} {T : Nt} {nv gv : Value} {ps : List (Cell1 × List Bool)} {gl : List Bool} : Lcl (S1 n tb T nv gv ps gl) := Lcl.own.star (Lcl.tab.star lcl_n)
def SyX (n tb sz : Nat) (T : Nt) (nv gv : Value) (ps : List (Cell1 × List Bool)) (gl : List Bool) (m : Nat) (w : World) (ρ : Env) (w' : World) : Prop :=
  ρ 1 = .int .i64 (sz : Nat) ∧ ρ 8 = .int .i64 (n : Nat) ∧ ρ 9 = nv ∧ ρ 13 = gv ∧ ∃ l, PtsP T m l ∧ At w [] (Star (LLA (ρ 16) 22 nE l) (S1 n tb T nv gv ps gl)) w'
set_option maxHeartbeats 1000000 in
theorem systematic_spec {w : World} (T : Nt) (sz : Nat) (hT : TmT T) (hr : NtR w T) (hz : sz = 1 ∨ sz = 2) :
    Calls Tryz.prog 8 [ntV T, .int .i64 (sz : Nat)].toArray w fun e w' => ∃ x, e = .returned x ∧ ∃ u l, x = .tuple #[u, .nilIface] ∧ PtsP T 1000 l ∧ At w [] (Star (LLA u 22 nE l) Emp) w' := by
  refine enter Tryz.func8 mixed low8 (Nat.le_of_ble_eq_true rfl) ?_
  simp only [L8]
  have hs := hT.sm
  have hg := hs.g
  have hvl := hT.vl
  obtain ⟨tb, htb⟩ : ∃ tb, tb = w.heap.size := ⟨_, rfl⟩
  have h1 : At w [] (FrN T tb) (w.alloc (ntO T)) := by rw [htb]; exact (At.start rfl).alloc _ .emp
  obtain ⟨w1, hw1⟩ : ∃ w1, w1 = w.alloc (ntO T) := ⟨_, rfl⟩
  rw [← hw1] at h1
  have hw1' : w.alloc (.cells #[T.vv.1, T.nv.1, T.gv.1, T.ov.1] 26 (0, 0)) = w1 := by rw [hw1]; rfl
  obtain ⟨n, hn⟩ : ∃ n, n = T.vars.length := ⟨_, rfl⟩
  have hvlen : ∀ {w' : World} {K : Kont Value}, NtR w' T → @lenH Tryz.prog 22 T.vv.1 K = @gdH (isSl Tryz.prog 22 = true) ⟨fun _ => K.run (.int .i64 n)⟩ := fun h => by rw [hn]; exact h.vars.len
  simp [ntV, ← htb, hw1', rd_nt h1.obj]
  refine cl_of (arcs39_spec T hs (hr.kp h1.kp)) ?_
  rintro _ w2 ⟨av, al, rfl, hal, h2⟩
  rw [← hn] at hal
  have h3 := At.join lcl_n h1 h2
  have ob3 := h3.drop.obj
  unfold ntO at ob3
  have hLA : Lcl (Star (OwnA av 98 3 a9E al) (FrN T tb)) := Lcl.own.star lcl_n
  simp (disch := omega) [cell_blk ob3, hvlen (hr.kp h3.kp)]
  refine gd_mk (by omega) ?_
  have h4 := h3.made (E := 96) (enc := (sv1 : Cell1 × List Bool → List Value)) (x := (⟨nlV, rfl⟩, [])) (z := [nlV]) (n := n) hLA rfl sv1_len (by unfold maxLen; omega)
  have h4 := ((At.rows_nil (E := 4) (sz := 1) (enc := bE) (Lcl.own.star hLA) h4 rfl n).by (RowsA.up _)).by TabA.cls
  obtain ⟨nv, hnv⟩ : ∃ nv, nv = Value.slice (some ⟨w2.heap.size, 0, none⟩) n n := ⟨_, rfl⟩
  obtain ⟨w4, hw4⟩ : ∃ w4, w4 = w2.alloc (.cells (rowOf [nlV] n).toArray 96) := ⟨_, rfl⟩
  rw [← hnv, ← hw4] at h4
  have hlen : ∀ {w' : World} {ps : List (Cell1 × List Bool)} {B : Asr} {K : Kont Value}, ps.length = n → At w [] (Star (TabA nv 96 4 bE ps) B) w' → @lenH Tryz.prog 95 nv K = @gdH (isSl Tryz.prog 95 = true) ⟨fun _ => K.run (.int .i64 n)⟩ := fun h h' => by
    rw [← h]
    exact (TabA.own h').len
  simp (disch := omega) [← hnv, ← hw4, hlen (by simp) h4]
  refine range_loop (n := n) (by omega) (fun k ρ w' => ρ 1 = .int .i64 (sz : Nat) ∧ ρ 2 = .pointer (some ⟨tb, 0, none⟩) ∧ ρ 6 = av ∧ ρ 8 = .int .i64 (n : Nat) ∧ ρ 9 = nv ∧ ∃ ps, BH n k ps ∧ At w [] (Star (TabA nv 96 4 bE ps) (Star (OwnA av 98 3 a9E al) (FrN T tb))) w') (by simp) (by simp)
    ⟨by simp, by simp, by simp, by simp, by simp, _, BH.zero (by simp), h4⟩ (by decide) (fun _ _ _ _ h => by simpa using h) (fun _ _ _ _ h => by simpa using h) ?_ ?_
  · clear h1 h2 h3 h4 ob3 hw1 hw1' hw4 hnv htb
    rintro k ρ w3 hk hc hlm ⟨g1, g2, g6, g8, g9, ps, hps, h3⟩
    have hpl := hps.1
    have hki : (k : Int) < n := by omega
    obtain ⟨pr, hpr⟩ : ∃ pr, ps[k]? = some pr := ⟨_, List.getElem?_eq_getElem (by omega)⟩
    simp (disch := omega) [g8, g9, hc, hlm]
    refine gd_mk (by omega) ?_
    have h4 := h3.made (E := 4) (enc := bE) (x := false) (z := [.bool false]) (n := n) (Lcl.tab.star hLA) rfl bE_len (by unfold maxLen; omega)
    have hTO := TabA.own h4.drop
    have hkp : (k : Int) < ps.length := by omega
    simp (disch := omega) [g9, hc, hTO.idx]
    refine tab_set hLA h4 hpr rfl fun ho w5 h5 => ?_
    simp [hc, hlm]
    exact ⟨by simp [g1], by simp [g2], by simp [g6], by simp [g8], by simp [g9], _, hps.set hk (by simp), h5⟩
  clear h1 h2 h3 h4 ob3 hw1 hw1' hw4 hnv htb
  rintro ρ w3 ⟨g1, g2, g6, g8, g9, ps, hps, h3⟩
  have hbt := hps.bt
  have hall := hal.len
  simp (disch := omega) [g6, h3.drop.own.len]
  refine range_loop (n := al.length) (by omega) (fun k ρ w' => ρ 1 = .int .i64 (sz : Nat) ∧ ρ 2 = .pointer (some ⟨tb, 0, none⟩) ∧ ρ 48 = av ∧ ρ 8 = .int .i64 (n : Nat) ∧ ρ 9 = nv ∧ btP n nv (Star (OwnA av 98 3 a9E al) (FrN T tb)) w w') (by simp) (by simp)
    ⟨by simp [g1], by simp [g2], by simp, by simp [g8], by simp [g9], ps, hbt, h3⟩ (by decide) (fun _ _ _ _ h => by simpa using h) (fun _ _ _ _ h => by simpa using h) ?_ ?_
  · clear h3 hps hbt g1 g2 g6 g8 g9
    rintro k ρ w4 hk hc hlm ⟨g1, g2, g48, g8, g9, ps, hps, h4⟩
    obtain ⟨a, ha⟩ : ∃ a, al[k]? = some a := ⟨_, List.getElem?_eq_getElem hk⟩
    obtain ⟨ha1, ha2⟩ := hal.rng a (List.mem_of_getElem? ha)
    have hO := h4.drop.own
    have eca := hO.cells a9E_len ha
    simp only [a9E] at eca
    obtain ⟨ab, hab⟩ : ∃ ab, ab = w4.heap.size := ⟨_, rfl⟩
    have hki : (k : Int) < al.length := by omega
    simp (disch := omega) [g48, hc, hlm, hO.idx, eca, ← hab]
    refine st_a9 (a := a) (Lcl.tab.star hLA) h4 hab fun w5 h5 => ?_
    have oa5 := h5.obj
    unfold a9O at oa5
    rw [hab] at oa5
    have h6 := (h5.by Imp.sw).drew (Lcl.tab.star (Lcl.obj.star hLA))
    obtain ⟨pu, hpu⟩ : ∃ pu, ps[a.1]? = some pu := ⟨_, List.getElem?_eq_getElem (by rw [hps.len]; exact ha1)⟩
    obtain ⟨pv, hpv⟩ : ∃ pv, ps[a.2]? = some pv := ⟨_, List.getElem?_eq_getElem (by rw [hps.len]; exact ha2)⟩
    have hTO := TabA.own h6
    have hRu := TabA.row h6 hpu
    have hRv := TabA.row h6 hpv
    have hlu := hps.row _ pu hpu
    have hlv := hps.row _ pv hpv
    have i1 : (a.1 : Int) < ps.length := by rw [hps.len]; omega
    have i2 : (a.2 : Int) < ps.length := by rw [hps.len]; omega
    have i3 : (a.2 : Int) < pu.2.length := by omega
    have i4 : (a.1 : Int) < pv.2.length := by omega
    simp (disch := omega) [g9, cell_blk oa5, hTO.idx, tab_cellB h6 hpu, tab_cellB h6 hpv, hRu.idx, hRv.idx]
    refine ⟨?_, ?_⟩
    all_goals
      refine TabA.store (Lcl.obj.star hLA) h6 hpu bE_len bE_one (k := a.2) (by omega) (x := true) rfl fun w7 h7 => ?_
      have hps7 : BT n (ps.set a.1 (pu.1, pu.2.set a.2 true)) := hps.set (by simp [hlu])
      obtain ⟨l7, hl7, hl7n⟩ : ∃ l7, (ps.set a.1 (pu.1, pu.2.set a.2 true))[a.2]? = some (pv.1, l7) ∧ l7.length = n := by
        by_cases e : a.1 = a.2
        · rw [← e] at hpv ⊢
          rw [hpu] at hpv
          cases hpv
          rw [List.getElem?_set_self (by rw [hps.len]; exact ha1)]
          exact ⟨_, rfl, by simp [hlu]⟩
        · rw [List.getElem?_set_ne e]
          exact ⟨pv.2, hpv, hlv⟩
      have oa7 := h7.drop.obj
      unfold a9O at oa7
      rw [hab] at oa7
      simp (disch := omega) [g9, cell_blk oa7, hRv.idx]
      refine TabA.store (p := (pv.1, l7)) (Lcl.obj.star hLA) h7 hl7 bE_len bE_one (k := a.1) (by simp only; omega) (x := true) rfl fun w8 h8 => ?_
      simp [hc, hlm]
      exact ⟨by simp [g1], by simp [g2], by simp [g48], by simp [g8], by simp [g9], _, hps7.set (by simp [hl7n]), h8.by (Imp.un Imp.dr)⟩
  clear h3 hps hbt g1 g2 g6 g8 g9
  rintro ρ w4 ⟨g1, g2, g48, g8, g9, ps, hps, h4⟩
  have h4 : At w [] (Star (TabA nv 96 4 bE ps) (FrN T tb)) w4 := h4.by (Imp.un Imp.dr)
  simp (disch := omega) [g8]
  refine gd_mk (by omega) ?_
  have h5 := h4.made (E := 4) (enc := bE) (x := false) (z := [.bool false]) (n := n) (Lcl.tab.star lcl_n) rfl bE_len (by unfold maxLen; omega)
  obtain ⟨gv, hgv⟩ : ∃ gv, gv = Value.slice (some ⟨w4.heap.size, 0, none⟩) n n := ⟨_, rfl⟩
  obtain ⟨w5, hw5⟩ : ∃ w5, w5 = w4.alloc (.cells (rowOf [.bool false] n).toArray 4) := ⟨_, rfl⟩
  rw [← hgv, ← hw5] at h5
  have ob5 := h5.drop.drop.obj
  unfold ntO at ob5
  have hgl := hg.goal.len
  simp (disch := omega) [← hgv, ← hw5, g2, cell_blk ob5, (hr.kp h5.kp).goal.len]
  refine range_loop (n := T.goal.length) (by omega) (fun k ρ w' => ρ 1 = .int .i64 (sz : Nat) ∧ ρ 2 = .pointer (some ⟨tb, 0, none⟩) ∧ ρ 74 = T.gv.1 ∧ ρ 8 = .int .i64 (n : Nat) ∧ ρ 9 = nv ∧ ρ 13 = gv ∧ ∃ gl : List Bool, gl.length = n ∧ At w [] (S1 n tb T nv gv ps gl) w') (by simp) (by simp)
    ⟨by simp [g1], by simp [g2], by simp, by simp [g8], by simp [g9], by simp, _, by simp, h5⟩ (by decide) (fun _ _ _ _ h => by simpa using h) (fun _ _ _ _ h => by simpa using h) ?_ ?_
  · clear h4 h5 ob5 hw5 hgv g1 g2 g48 g8 g9
    rintro k ρ w6 hk hc hlm ⟨g1, g2, g74, g8, g9, g13, gl, hgl2, h6⟩
    obtain ⟨f, hf⟩ : ∃ f, T.goal[k]? = some f := ⟨_, List.getElem?_eq_getElem hk⟩
    obtain ⟨hf1, hf2⟩ := hg.goal.rng f (List.mem_of_getElem? hf)
    have hv6 := (hr.kp h6.kp).goal
    have ecf := hv6.cells fcE_len hf
    simp only [fcE] at ecf
    obtain ⟨fb, hfb⟩ : ∃ fb, fb = w6.heap.size := ⟨_, rfl⟩
    have hki : (k : Int) < T.goal.length := by omega
    simp (disch := omega) [g74, hc, hlm, hv6.idx, ecf, ← hfb]
    refine st_fa (f := faN f) lcl_s1 h6 hfb fun w7 h7 => ?_
    have of7 := h7.obj
    simp only [faN, faO] at of7
    rw [hfb] at of7
    have hO := h7.drop.own
    have hfi : (f.1 : Int) < gl.length := by omega
    simp (disch := omega) [g13, cell_blk of7, hO.idx]
    refine h7.drop.store1 (Lcl.tab.star lcl_n) bE_len bE_one (k := f.1) (by omega) (x := true) rfl fun w8 h8 => ?_
    simp [hc, hlm]
    exact ⟨by simp [g1], by simp [g2], by simp [g74], by simp [g8], by simp [g9], by simp [g13], _, by simp [hgl2], h8⟩
  clear h4 h5 ob5 hw5 hgv g1 g2 g48 g8 g9
  rintro ρ w6 ⟨g1, g2, g74, g8, g9, g13, gl, hgl2, h6⟩
  have hmm : max (1 : Int) (min (sz : Int) 3) = (sz : Int) := by omega
  have hSX : ∀ (m : Nat) (ρ : Env) (w' : World) (k : Nat) (x : Value), k ≠ 1 → k ≠ 8 → k ≠ 9 → k ≠ 13 → k ≠ 16 → SyX n tb sz T nv gv ps gl m w ρ w' → SyX n tb sz T nv gv ps gl m w (ρ.set k x) w' := by
    rintro m ρ w' k x n1 n2 n3 n4 n5 ⟨e1, e2, e3, e4, l, hl, h⟩
    refine ⟨?_, ?_, ?_, ?_, l, hl, ?_⟩
    · rw [set_at, if_neg (by omega)]; exact e1
    · rw [set_at, if_neg (by omega)]; exact e2
    · rw [set_at, if_neg (by omega)]; exact e3
    · rw [set_at, if_neg (by omega)]; exact e4
    · rw [set_at, if_neg (by omega)]; exact h
  have h7 : At w [] (Star (LLA (.slice none 0 0) 22 nE ([] : List (List Nat))) (S1 n tb T nv gv ps gl)) w6 := LLA.nil lcl_s1 h6
  have hn4 : n ≤ 4 := by omega
  simp [g1, g8, hmm]
  refine range_loop (n := n) (by omega) (fun k ρ w' => SyX n tb sz T nv gv ps gl k w ρ w') (by simp) (by simp)
    ⟨by simp, by simp [g8], by simp [g9], by simp [g13], [], ⟨by simp, by simp⟩, by simpa using h7⟩ (by decide) (fun k ρ w x h => hSX _ _ _ _ _ (by decide) (by decide) (by decide) (by decide) (by decide) h) (fun k ρ w x h => hSX _ _ _ _ _ (by decide) (by decide) (by decide) (by decide) (by decide) h) ?_ ?_
  · clear h6 h7 g1 g2 g74 g8 g9 g13
    rintro k ρ w7 hk hc hlm ⟨g1, g8, g9, g13, l, hl, h7⟩
    obtain ⟨y, hy⟩ : ∃ y, gl[k]? = some y := ⟨_, List.getElem?_eq_getElem (by omega)⟩
    have hO := h7.drop.own
    have hcy : w7.cell? ⟨gv.blk, k, none⟩ = some (.bool y) := by
      have := hO.cell bE_len hy (o := 0) (by omega)
      simpa [bE] using this
    have hki : (k : Int) < n := by omega
    have hkg : (k : Int) < gl.length := by omega
    have hll := hl.len
    cases y with
    | false =>
      simp (disch := omega) [g13, hc, hlm, hO.idx, hcy]
      exact ⟨by simp [g1], by simp [g8], by simp [g9], by simp [g13], l, hl.mono (by omega), by simpa using h7⟩
    | true =>
      simp (disch := omega) [g13, hc, hlm, hO.idx, hcy]
      refine pt_append (outs := l) (p := [k]) (cs := #[.int .i64 (k : Nat)]) (m := 1) lcl_s1 h7 (by omega) (by simp [nE]) rfl (by simp) fun v' w8 h8 => ?_
      simp [hc, hlm]
      exact ⟨by simp [g1], by simp [g8], by simp [g9], by simp [g13], _, hl.add (Pt.one (T := T) (a := k) (by omega)), by simpa using h8⟩
  clear h6 h7 g1 g2 g74 g8 g9 g13
  rintro ρ w7 hX
  simp only [thenK_nrm]
  have hX : SyX n tb sz T nv gv ps gl 4 w ρ w7 := by
    obtain ⟨e1, e2, e3, e4, l, hl, h⟩ := hX
    exact ⟨e1, e2, e3, e4, l, hl.mono hn4, h⟩
  refine seq_cut (fun ρ w' => SyX n tb sz T nv gv ps gl 100 w ρ w') ?_ ?_
  · simp
    refine loop_inv (fun m ρ w' => ∃ a : Nat, a + m = n ∧ ρ 18 = .int .i64 (a : Nat) ∧ SyX n tb sz T nv gv ps gl (4 + a * 4) w ρ w') n ⟨0, by omega, by simp, hSX _ _ _ _ _ (by decide) (by decide) (by decide) (by decide) (by decide) (by simpa using hX)⟩ ?_
    clear hX
    rintro m ρ w8 ⟨a, ham, g18, hX⟩
    have hX' := hX
    obtain ⟨g1, g8, g9, g13, l, hl, h8⟩ := hX
    by_cases ha : a < n
    · have ha' : (a : Int) < n := by omega
      rcases hz with rfl | rfl
      · simp [g18, g8, g1, ha, ha']
        refine ⟨by simp [g1], by simp [g8], by simp [g9], by simp [g13], l, hl.mono (by omega), by simpa using h8⟩
      · have e1 : (a : Int) + 1 = ((a + 1 : Nat) : Int) := by omega
        obtain ⟨a1, ha1⟩ : ∃ a1, a1 = a + 1 := ⟨_, rfl⟩
        rw [← ha1] at e1
        simp (disch := omega) [g18, g8, g1, ha, ha', e1, wrap_i64]
        refine loop_inv (fun m ρ w' => ∃ b : Nat, a < b ∧ b + m = n ∧ ρ 19 = .int .i64 (b : Nat) ∧ ρ 18 = .int .i64 (a : Nat) ∧ SyX n tb 2 T nv gv ps gl (4 + a * 4 + b) w ρ w') (n - a1) ⟨a1, by omega, by omega, by simp, by simp [g18], by simp [g1], by simp [g8], by simp [g9], by simp [g13], l, hl.mono (by omega), by simpa using h8⟩ ?_
        clear hX' h8 hl g1 g8 g9 g13 g18
        clear l
        rintro m2 ρ w9 ⟨b, hab, hbm, g19, g18, g1, g8, g9, g13, l, hl, h9⟩
        by_cases hb : b < n
        · have hb' : (b : Int) < n := by omega
          have hO := h9.drop.own
          have h9t := h9.drop.drop
          obtain ⟨ya, hya⟩ : ∃ y, gl[a]? = some y := ⟨_, List.getElem?_eq_getElem (by omega)⟩
          obtain ⟨yb, hyb⟩ : ∃ y, gl[b]? = some y := ⟨_, List.getElem?_eq_getElem (by omega)⟩
          obtain ⟨pa, hpa⟩ : ∃ pa, ps[a]? = some pa := ⟨_, List.getElem?_eq_getElem (by rw [hps.len]; omega)⟩
          have hpal := hps.row a pa hpa
          obtain ⟨yn, hyn⟩ : ∃ y, pa.2[b]? = some y := ⟨_, List.getElem?_eq_getElem (by omega)⟩
          have hTO := TabA.own h9t
          have hRa := TabA.row h9t hpa
          have hca : w9.cell? ⟨gv.blk, a, none⟩ = some (.bool ya) := by
            have := hO.cell bE_len hya (o := 0) (by omega)
            simpa [bE] using this
          have hcb : w9.cell? ⟨gv.blk, b, none⟩ = some (.bool yb) := by
            have := hO.cell bE_len hyb (o := 0) (by omega)
            simpa [bE] using this
          have hcn : w9.cell? ⟨pa.1.1.blk, b, none⟩ = some (.bool yn) := by
            have := hRa.cell bE_len hyn (o := 0) (by omega)
            simpa [bE] using this
          have i1 : (a : Int) < gl.length := by omega
          have i2 : (b : Int) < gl.length := by omega
          have i3 : (a : Int) < ps.length := by rw [hps.len]; omega
          have i4 : (b : Int) < pa.2.length := by omega
          have hll := hl.len
          have e2 : (b : Int) + 1 = ((b + 1 : Nat) : Int) := by omega
          obtain ⟨b1, hb1⟩ : ∃ b1, b1 = b + 1 := ⟨_, rfl⟩
          rw [← hb1] at e2
          by_cases hg : (ya = true ∨ yb = true) ∧ yn = true
          · obtain ⟨hg1, rfl⟩ := hg
            have hr2 : rowOf [.int .i64 0] 2 = [.int .i64 0, .int .i64 0] := rfl
            cases ya with
            | true =>
              simp (disch := omega) [g19, g8, hb, hb', g13, g18, hO.idx, hca, g9, hTO.idx, tab_cellB h9t hpa, hRa.idx, hcn, hr2]
              refine pt_append (outs := l) (p := [a, b]) (cs := #[.int .i64 (a : Nat), .int .i64 (b : Nat)]) (m := 2) lcl_s1 h9 (by omega) (by simp [nE]) rfl (by simp) fun v' wA hA => ?_
              simp (disch := omega) [g19, e2, wrap_i64]
              exact ⟨m2 - 1, by omega, b1, by omega, by omega, by simp, by simp [g18], by simp [g1], by simp [g8], by simp [g9], by simp [g13], _, (hl.add (Pt.two (T := T) (a := a) (b := b) hab (by omega))).mono (by omega), by simpa using hA⟩
            | false =>
              simp at hg1
              subst hg1
              simp (disch := omega) [g19, g8, hb, hb', g13, g18, hO.idx, hca, hcb, g9, hTO.idx, tab_cellB h9t hpa, hRa.idx, hcn, hr2]
              refine pt_append (outs := l) (p := [a, b]) (cs := #[.int .i64 (a : Nat), .int .i64 (b : Nat)]) (m := 2) lcl_s1 h9 (by omega) (by simp [nE]) rfl (by simp) fun v' wA hA => ?_
              simp (disch := omega) [g19, e2, wrap_i64]
              exact ⟨m2 - 1, by omega, b1, by omega, by omega, by simp, by simp [g18], by simp [g1], by simp [g8], by simp [g9], by simp [g13], _, (hl.add (Pt.two (T := T) (a := a) (b := b) hab (by omega))).mono (by omega), by simpa using hA⟩
          · cases ya with
            | true =>
              have hyn0 : yn = false := by simpa using hg
              subst hyn0
              simp (disch := omega) [g19, g8, hb, hb', g13, g18, hO.idx, hca, g9, hTO.idx, tab_cellB h9t hpa, hRa.idx, hcn, e2, wrap_i64]
              exact ⟨m2 - 1, by omega, b1, by omega, by omega, rfl, by simp [g1], by simp [g8], by simp [g9], by simp [g13], l, hl.mono (by omega), by simpa using h9⟩
            | false =>
              cases yb with
              | true =>
                have hyn0 : yn = false := by simpa using hg
                subst hyn0
                simp (disch := omega) [g19, g8, hb, hb', g13, g18, hO.idx, hca, hcb, g9, hTO.idx, tab_cellB h9t hpa, hRa.idx, hcn, e2, wrap_i64]
                exact ⟨m2 - 1, by omega, b1, by omega, by omega, rfl, by simp [g1], by simp [g8], by simp [g9], by simp [g13], l, hl.mono (by omega), by simpa using h9⟩
              | false =>
                simp (disch := omega) [g19, g8, hb, hb', g13, g18, hO.idx, hca, hcb, e2, wrap_i64]
                exact ⟨m2 - 1, by omega, b1, by omega, by omega, rfl, by simp [g1], by simp [g8], by simp [g9], by simp [g13], l, hl.mono (by omega), by simpa using h9⟩
        · have hb' : ¬ (b : Int) < n := by omega
          simp (disch := omega) [g19, g8, hb, hb', g18, e1, wrap_i64]
          exact ⟨m - 1, by omega, a1, by omega, by simp, by simp [g1], by simp [g8], by simp [g9], by simp [g13], l, hl.mono (by omega), by simpa using h9⟩
    · have ha' : ¬ (a : Int) < n := by omega
      simp [g18, g8, g1, ha, ha']
      refine ⟨by simp [g1], by simp [g8], by simp [g9], by simp [g13], l, hl.mono (by omega), by simpa using h8⟩
  clear hX
  rintro ρ w8 hX
  refine seq_cut (fun ρ w' => SyX n tb sz T nv gv ps gl 100 w ρ w') ?_ ?_
  · simp
    have hX2 : SyX n tb sz T nv gv ps gl 100 w (ρ.set 20 (.int .i64 0)) w8 := hSX _ _ _ _ _ (by decide) (by decide) (by decide) (by decide) (by decide) hX
    refine loop_inv (fun m ρ w' => ρ 20 = .int .i64 0 ∧ SyX n tb sz T nv gv ps gl 100 w ρ w') 0 ⟨by simp, hX2⟩ ?_
    clear hX hX2
    rintro m ρ w9 ⟨g20, g1, g8, g9, g13, l, hl, h9⟩
    have hz3 : ¬ (3 : Int) ≤ (sz : Int) := by omega
    have hz3' : ¬ 3 ≤ sz := by omega
    by_cases h0 : 0 < n
    · have h0' : (0 : Int) < (n : Int) := by omega
      simp [g20, g8, g1, h0, h0', hz3, hz3']
      exact ⟨by simp [g1], by simp [g8], by simp [g9], by simp [g13], l, hl, by simpa using h9⟩
    · have h0' : ¬ (0 : Int) < (n : Int) := by omega
      simp [g20, g8, g1, h0, h0']
      exact ⟨by simp [g1], by simp [g8], by simp [g9], by simp [g13], l, hl, by simpa using h9⟩
  clear hX
  rintro ρ w9 ⟨g1, g8, g9, g13, l, hl, h9⟩
  obtain ⟨lps, hlm1, h10⟩ := LLA.opn h9
  have hlpl : lps.length = l.length := by rw [← hlm1]; simp
  have hll := hl.len
  have n1 : ¬ (1024 : Int) < (lps.length : Int) := by omega
  have n1' : ¬ 1024 < lps.length := by omega
  simp [h10.own.len, n1, n1']
  exact ⟨l, hl.mono (by omega), h9.by (Imp.un (Imp.dr.trans (Imp.dr.trans Imp.dr)))⟩
end Go.Proofs.YtolkjbmcindhjaaGreat
end
section
set_option maxRecDepth 100000
set_option linter.unusedSimpArgs false
set_option linter.unusedVariables false
namespace Go.Proofs.YtolkjbmcindhjaaGreat
open Go Go.W Go.Tk Go.Rx Go.Maps
def tmO (o : No) : Bool := o.effs.all (fun e => decide (e.cnd.length ≤ 2)) && decide ((o.effs.filter fun e => decide (0 < e.cnd.length)).length ≤ 3)
structure TmN (T : Nt) : Prop where
  v : ∀ n ∈ T.vars, 2 ≤ n ∧ n ≤ 4
  o : ∀ o ∈ T.ops, tmO o = true
def TmR (t : Tk) (b : Bool) : Prop := b = true → ∃ T, T.raw = t ∧ SmT T ∧ TmN T
theorem TmR.no (t : Tk) : TmR t false := fun h => by cases h
set_option maxHeartbeats 1000000 in
theorem tame_spec {w : World} (t : Tk) (ht : TkR w t) (hl : TkL t) :
    Calls Tryz.prog 6 [tkV t].toArray w fun e w' => ∃ x, e = .returned x ∧ ∃ b, x = .bool b ∧ TmR t b ∧ Kp [] w w' := by
  refine enter Tryz.func6 mixed low6 (Nat.le_of_ble_eq_true rfl) ?_
  simp only [L6]
  obtain ⟨tb, htb⟩ : ∃ tb, tb = w.heap.size := ⟨_, rfl⟩
  have h1 : At w [] (Star (ObjA tb (tkO t)) Emp) (w.alloc (tkO t)) := by rw [htb]; exact (At.start rfl).alloc _ .emp
  obtain ⟨w1, hw1⟩ : ∃ w1, w1 = w.alloc (tkO t) := ⟨_, rfl⟩
  rw [← hw1] at h1
  have hw1' : w.alloc (.cells #[t.vv.1, t.nv.1, t.gv.1, t.ov.1] 26 (0, 0)) = w1 := by rw [hw1]; rfl
  have hL : Lcl (Star (ObjA tb (tkO t)) Emp) := Lcl.obj.star .emp
  simp [tkV, ← htb, hw1', rd_tk h1.obj]
  refine cl_of (small_spec t (ht.kp h1.kp) hl) ?_
  rintro _ w2 ⟨rfl, k2⟩
  have h2 := h1.kp0 hL k2
  cases hsm : smallB t with
  | false =>
    simp
    exact ⟨TmR.no t, h2.kp⟩
  | true =>
  obtain ⟨T, rfl, hs⟩ := small_nat hl hsm
  have hr : NtR w T := NtR.raw.1 ht
  have hg := hs.g
  have hvl := hs.vl
  have hol := hs.ol
  have h2 : At w [] (Star (ObjA tb (ntO T)) Emp) w2 := h2
  have ob2 := h2.obj
  unfold ntO at ob2
  have hr2 := hr.kp h2.kp
  simp (disch := omega) [cell_blk ob2, hr2.vars.len]
  refine range_loop (n := T.vars.length) (by omega) (fun k ρ w' => ρ 1 = .pointer (some ⟨tb, 0, none⟩) ∧ ρ 14 = T.vv.1 ∧ (∀ j n, j < k → T.vars[j]? = some n → 2 ≤ n ∧ n ≤ 4) ∧ At w [] (Star (ObjA tb (ntO T)) Emp) w') (by simp) (by simp)
    ⟨by simp, by simp, fun j n hj => by omega, h2⟩ (by decide) (fun _ _ _ _ h => by simpa using h) (fun _ _ _ _ h => by simpa using h) ?_ ?_
  · rintro k ρ w3 hk hc hlm ⟨g1, g14, hv, h3⟩
    obtain ⟨n, hn⟩ : ∃ n, T.vars[k]? = some n := ⟨_, List.getElem?_eq_getElem hk⟩
    have hr3 := hr.kp h3.kp
    have hki : (k : Int) < T.vars.length := by omega
    by_cases t1 : n < 2
    · have t1' : (n : Int) < 2 := by omega
      simp (disch := omega) [g14, hc, hlm, hr3.vars.idx, nE_cell hr3.vars hn, t1, t1']
      exact ⟨TmR.no _, h3.kp⟩
    · have t1' : ¬ (n : Int) < 2 := by omega
      by_cases t2 : 4 < n
      · have t2' : (4 : Int) < (n : Int) := by omega
        simp (disch := omega) [g14, hc, hlm, hr3.vars.idx, nE_cell hr3.vars hn, t1, t1', t2, t2']
        exact ⟨TmR.no _, h3.kp⟩
      · have t2' : ¬ (4 : Int) < (n : Int) := by omega
        simp (disch := omega) [g14, hc, hlm, hr3.vars.idx, nE_cell hr3.vars hn, t1, t1', t2, t2']
        refine ⟨by simp [g1], fun j m hj hm => ?_, h3⟩
        by_cases e : j = k
        · subst e; rw [hn] at hm; cases hm; omega
        · exact hv j m (by omega) hm
  clear h1 h2 hr2 ob2 hw1 hw1' htb k2
  rintro ρ w3 ⟨g1, g14, hv, h3⟩
  have hvT : ∀ n ∈ T.vars, 2 ≤ n ∧ n ≤ 4 := fun n hn => by
    obtain ⟨j, hj, rfl⟩ := List.getElem_of_mem hn
    exact hv j _ hj (List.getElem?_eq_getElem hj)
  have ob3 := h3.obj
  unfold ntO at ob3
  have hr3 := hr.kp h3.kp
  simp (disch := omega) [g1, cell_blk ob3, hr3.ops.len]
  refine range_loop (n := T.ops.length) (by omega) (fun k ρ w' => ρ 28 = T.ov.1 ∧ (∀ j o, j < k → T.ops[j]? = some o → tmO o = true) ∧ At w [] (Star (ObjA tb (ntO T)) Emp) w') (by simp) (by simp)
    ⟨by simp, fun j o hj => by omega, h3⟩ (by decide) (fun _ _ _ _ h => by simpa using h) (fun _ _ _ _ h => by simpa using h) ?_ ?_
  rotate_left
  · rintro ρ w4 ⟨g28, ho, h4⟩
    simp
    refine ⟨fun _ => ⟨T, rfl, hs, hvT, fun o hom => ?_⟩, h4.kp⟩
    obtain ⟨j, hj, rfl⟩ := List.getElem_of_mem hom
    exact ho j _ hj (List.getElem?_eq_getElem hj)
  clear h3 ob3 hr3 g1 g14 hv
  rintro k ρ w4 hk hc hlm ⟨g28, hos, h4⟩
  obtain ⟨o, ho⟩ : ∃ o, T.ops[k]? = some o := ⟨_, List.getElem?_eq_getElem hk⟩
  have hom := List.mem_of_getElem? ho
  have hgo := hg.ops o hom
  have helen := hgo.elen
  have hr4 := hr.kp h4.kp
  have eco := hr4.ops.cells noE_len ho
  simp only [noE] at eco
  obtain ⟨ob, hob⟩ : ∃ ob, ob = w4.heap.size := ⟨_, rfl⟩
  have hki : (k : Int) < T.ops.length := by omega
  have hL4 : Lcl (Star (ObjA tb (ntO T)) Emp) := Lcl.obj.star .emp
  simp (disch := omega) [g28, hc, hlm, hr4.ops.idx, eco, ← hob]
  refine st_oq (o := o.raw) hL4 h4 hob fun w5 h5 => ?_
  have oo5 := h5.obj
  unfold oqO No.raw at oo5
  rw [hob] at oo5
  have hro5 := (hr.kp h5.kp).op o hom
  simp (disch := omega) [cell_blk oo5, hro5.effs.len]
  refine range_loop (n := o.effs.length) (by omega) (fun j ρ w' => ρ 28 = T.ov.1 ∧ ρ 30 = .int .i64 (k : Nat) ∧ ρ 29 = .int .i64 (T.ops.length : Nat) ∧ ρ 35 = o.ev.1 ∧ ρ 7 = .int .i64 (((o.effs.take j).filter fun e => decide (0 < e.cnd.length)).length : Nat) ∧ (o.effs.take j).all (fun e => decide (e.cnd.length ≤ 2)) = true ∧ At w [] (Star (ObjA tb (ntO T)) Emp) w') (by simp) (by simp)
    ⟨by simp [g28], by simp [hc], by simp [hlm], by simp, by simp, by simp, h5.drop⟩ (by decide) (fun _ _ _ _ h => by simpa using h) (fun _ _ _ _ h => by simpa using h) ?_ ?_
  rotate_left
  · rintro ρ w6 ⟨g28, g30, g29, g35, g7, hall, h6⟩
    rw [List.take_length] at g7 hall
    obtain ⟨m, hm⟩ : ∃ m, m = (o.effs.filter fun e => decide (0 < e.cnd.length)).length := ⟨_, rfl⟩
    rw [← hm] at g7
    by_cases t1 : 3 < m
    · have t1' : (3 : Int) < (m : Int) := by omega
      simp [g7, t1, t1']
      exact ⟨TmR.no _, h6.kp⟩
    · have t1' : ¬ (3 : Int) < (m : Int) := by omega
      simp [g7, t1, t1', g30, g29]
      refine ⟨by simp [g28], fun j o' hj ho' => ?_, h6⟩
      by_cases e : j = k
      · subst e; rw [ho] at ho'; cases ho'
        unfold tmO
        rw [hall, ← hm]
        simp; omega
      · exact hos j o' (by omega) ho'
  clear h4 h5 oo5 hro5 hr4 eco g28 hc hlm hob
  rintro j ρ w6 hj hcj hlj ⟨g28, g30, g29, g35, g7, hall, h6⟩
  obtain ⟨e, he⟩ : ∃ e, o.effs[j]? = some e := ⟨_, List.getElem?_eq_getElem hj⟩
  have hem := List.mem_of_getElem? he
  have hro6 := (hr.kp h6.kp).op o hom
  have ece := hro6.effs.cells nfE_len he
  simp only [nfE] at ece
  obtain ⟨eb, heb⟩ : ∃ eb, eb = w6.heap.size := ⟨_, rfl⟩
  have hji : (j : Int) < o.effs.length := by omega
  obtain ⟨m, hm⟩ : ∃ m, m = ((o.effs.take j).filter fun e => decide (0 < e.cnd.length)).length := ⟨_, rfl⟩
  have hml : m ≤ o.effs.length := by
    rw [hm]
    have h1 := List.length_filter_le (fun e : Nf => decide (0 < e.cnd.length)) (o.effs.take j)
    have h2 : (o.effs.take j).length ≤ o.effs.length := by simp; omega
    omega
  rw [← hm] at g7
  have htk := take_snoc he
  simp (disch := omega) [g35, hcj, hlj, hro6.effs.idx, ece, ← heb]
  refine st_ef (e := e.raw) hL4 h6 heb fun w7 h7 => ?_
  have oe7 := h7.obj
  unfold efO Nf.raw at oe7
  rw [heb] at oe7
  have hce := (((hr.kp h7.kp).op o hom).cnd e hem)
  have hnext : ((o.effs.take (j + 1)).filter fun e => decide (0 < e.cnd.length)).length = m + if 0 < e.cnd.length then 1 else 0 := by
    rw [htk, List.filter_append, List.length_append, ← hm, List.filter_cons, List.filter_nil]
    split <;> simp_all
  have hanext : (o.effs.take (j + 1)).all (fun e => decide (e.cnd.length ≤ 2)) = decide (e.cnd.length ≤ 2) := by rw [htk, List.all_append, hall]; simp
  have hall' : e.cnd.length ≤ 2 → ∀ x ∈ o.effs.take (j + 1), x.cnd.length ≤ 2 := fun h => by
    rw [decide_eq_true h, List.all_eq_true] at hanext
    intro x hx
    simpa using hanext x hx
  by_cases t1 : 2 < e.cnd.length
  · have t1' : (2 : Int) < (e.cnd.length : Int) := by omega
    simp (disch := omega) [cell_blk oe7, hce.len, t1, t1']
    exact ⟨TmR.no _, h7.kp⟩
  · have t1' : ¬ (2 : Int) < (e.cnd.length : Int) := by omega
    by_cases t2 : 0 < e.cnd.length
    · have t2' : (0 : Int) < (e.cnd.length : Int) := by omega
      rw [if_pos t2] at hnext
      obtain ⟨m1, hm1⟩ : ∃ m1, m1 = m + 1 := ⟨_, rfl⟩
      have e1 : (m : Int) + 1 = (m1 : Int) := by omega
      rw [← hm1] at hnext
      simp (disch := omega) [cell_blk oe7, hce.len, t1, t1', t2, t2', g7, e1, wrap_i64, hcj, hlj]
      exact ⟨by simp [g28], by simp [g30], by simp [g29], by simp [g35], by omega, hall' (by omega), h7.drop⟩
    · have t2' : ¬ (0 : Int) < (e.cnd.length : Int) := by omega
      rw [if_neg t2, Nat.add_zero] at hnext
      simp (disch := omega) [cell_blk oe7, hce.len, t1, t1', t2, t2', g7, hcj, hlj]
      exact ⟨by simp [g28], by simp [g30], by simp [g29], by simp [g35], by omega, hall' (by omega), h7.drop⟩
end Go.Proofs.YtolkjbmcindhjaaGreat
end
section
set_option maxRecDepth 100000
set_option linter.unusedSimpArgs false
set_option linter.unusedVariables false
namespace Go.Proofs.YtolkjbmcindhjaaGreat
open Go Go.W Go.Tk Go.Rx Go.Maps
theorem pawake_spec {w : World} :
    Calls Tryz.prog 7 ([] : List Value).toArray w fun e w' => ∃ x, e = .returned x ∧ x = .bool true ∧ Kp [] w w' := by
  refine enter Tryz.func7 mixed low7 (Nat.le_of_ble_eq_true rfl) ?_
  simp only [L7]
  have hr2 : rowOf [Value.slice none 0 0, .int .i64 0] 2 = [.slice none 0 0, .int .i64 0, .slice none 0 0, .int .i64 0] := rfl
  obtain ⟨s, hs⟩ : ∃ s, s = w.heap.size := ⟨_, rfl⟩
  have h0 : At w [] Emp w := At.start rfl
  have h1 := h0.lit (xs := [4]) (enc := nE) (E := 3) (sz := 1) (cs := #[.int .i64 4]) (m := 1) .emp (by simp [nE]) nE_len (by simp [maxLen]) rfl
  have h2 := h1.lit (xs := [0]) (enc := nE) (E := 3) (sz := 1) (cs := #[.int .i64 0]) (m := 1) (Lcl.own.star .emp) (by simp [nE]) nE_len (by simp [maxLen]) rfl
  have h3 := h2.lit (xs := [0]) (enc := nE) (E := 3) (sz := 1) (cs := #[.int .i64 0]) (m := 1) (Lcl.own.star (Lcl.own.star .emp)) (by simp [nE]) nE_len (by simp [maxLen]) rfl
  have s1 : (w.alloc (.cells #[.int .i64 4] 3)).heap.size = s + 1 := by rw [hs]; simp
  have s2 : ((w.alloc (.cells #[.int .i64 4] 3)).alloc (.cells #[.int .i64 0] 3)).heap.size = s + 1 + 1 := by rw [hs]; simp
  rw [s1, s2, ← hs] at h3
  obtain ⟨w3, hw3⟩ : ∃ w3, w3 = ((w.alloc (.cells #[.int .i64 4] 3)).alloc (.cells #[.int .i64 0] 3)).alloc (.cells #[.int .i64 0] 3) := ⟨_, rfl⟩
  rw [← hw3] at h3
  obtain ⟨k0, hk0⟩ : ∃ k0 : Kt, k0 = ⟨⟨.slice (some ⟨s + 1, 0, none⟩) 1 1, rfl⟩, [0], 0⟩ := ⟨_, rfl⟩
  obtain ⟨k1, hk1⟩ : ∃ k1 : Kt, k1 = ⟨⟨.slice (some ⟨s + 1 + 1, 0, none⟩) 1 1, rfl⟩, [0], 0⟩ := ⟨_, rfl⟩
  have h4 := h3.lit (xs := [k0, k1]) (enc := ktE) (E := 63) (sz := 2) (cs := #[.slice (some ⟨s + 1, 0, none⟩) 1 1, .int .i64 0, .slice (some ⟨s + 1 + 1, 0, none⟩) 1 1, .int .i64 0]) (m := 2) (Lcl.own.star (Lcl.own.star (Lcl.own.star .emp))) (by rw [hk0, hk1]; simp [ktE]) ktE_len (by simp [maxLen]) rfl
  obtain ⟨w4, hw4⟩ : ∃ w4, w4 = w3.alloc (.cells #[.slice (some ⟨s + 1, 0, none⟩) 1 1, .int .i64 0, .slice (some ⟨s + 1 + 1, 0, none⟩) 1 1, .int .i64 0] 63) := ⟨_, rfl⟩
  obtain ⟨t, ht⟩ : ∃ t, t = w3.heap.size := ⟨_, rfl⟩
  rw [← hw4, ← ht] at h4
  have ht3 : t = s + 3 := by rw [ht, hw3, hs]; simp
  have hw4' : w3.alloc (.cells #[.slice (some ⟨s + 1, 0, none⟩) 1 1, .int .i64 0, .slice (some ⟨s + 1 + 1, 0, none⟩) 1 1, .int .i64 0] 63 (0, 0)) = w4 := by rw [hw4]
  simp [← hs, ← hw3, hr2, hw4', ← ht]
  have hcv : Vw w4 (.slice (some ⟨s, 0, none⟩) 1 1) nE [4] := h4.drop.drop.drop.own.vw
  have hkr : KtR w4 (.slice (some ⟨t, 0, none⟩) 2 2) [k0, k1] := ⟨h4.own.vw, fun k hk => by
    simp at hk
    rcases hk with rfl | rfl
    · rw [hk0]; exact h4.drop.drop.own.vw
    · rw [hk1]; exact h4.drop.own.vw⟩
  have hkg : KtG [4] [k0, k1] := by
    refine ⟨by simp, by simp, by simp, ?_, ?_, ?_⟩ <;> rw [hk0, hk1] <;> simp
  refine cl_of (uniform_spec (.slice (some ⟨s, 0, none⟩) 1 1) (.slice (some ⟨t, 0, none⟩) 2 2) [4] [k0, k1] hcv hkr hkg) ?_
  rintro _ w5 ⟨u, rfl, h5⟩
  have hun : unF [4] [k0, k1] = [(2, 1), (2, 1)] := by
    have hm : mnL [k0, k1] 0 = 2 := by rw [hk0, hk1]; rfl
    have hsh : shr [4] [k0, k1] 0 = (2, 1) := by unfold shr; rw [hm]; decide
    have : unF [4] [k0, k1] = [shr [4] [k0, k1] 0, shr [4] [k0, k1] 0] := by
      unfold unF
      rw [hk0, hk1]
      rfl
    rw [this, hsh]
  rw [hun] at h5
  simp
  refine cl_of (paValue_spec u [(2, 1), (2, 1)] h5.own.vw (by simp) (by decide)) ?_
  rintro _ w6 ⟨rfl, k6⟩
  have hsum : frSum [(2, 1), (2, 1)] (0, 1) = some (4, 1) := by decide
  have hce : frCeil (4, 1) = 4 := by decide
  rw [hsum]
  simp [vlR, hce, (h5.own.kp k6 (by simp)).len]
  exact (h4.kp.trans h5.kp).trans k6
end Go.Proofs.YtolkjbmcindhjaaGreat
end
