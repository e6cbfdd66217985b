/-
  A part of the proofs of this seat's statements (RxWC); no conditions beyond those each theorem names.
-/
import Derived.Test.YtjpbkljnllkneaaRxWB
import Derived.Test.YtjpbkljnllkneaaRxPa
set_option maxRecDepth 100000
set_option linter.unusedSimpArgs false
set_option linter.unusedVariables false
namespace Go.Proofs.Ytjpbkljnllkneaa
open Go Go.W Go.Tk Go.Rx Go.Maps
theorem tabZ_len (N : Nat) (g : Nat → Int) : (tabZ N g).length = N := by simp [tabZ]
theorem tabZ_at {N k : Nat} {g : Nat → Int} (h : k < N) : (tabZ N g)[k]? = some (g k) := by simp [tabZ, h]
theorem tabZ_congr {N : Nat} {f g : Nat → Int} (h : ∀ i, i < N → f i = g i) : tabZ N f = tabZ N g := List.map_congr_left fun i hi => h i (List.mem_range.1 hi)
theorem tabZ_set {N k : Nat} {x : Int} {g : Nat → Int} (h : k < N) : (tabZ N g).set k x = tabZ N (updN g k x) := by
  unfold tabZ
  apply List.ext_getElem
  · simp
  · intro i h1 h2
    rw [List.getElem_set]
    by_cases e : k = i
    · subst e; simp
    · rw [if_neg e]; simp [updN_ne (Ne.symm e)]
def fil (k : Nat) (d : Int) : Nat → Int := fun j => if j < k then d else 0
theorem fil_succ (k : Nat) (d : Int) : updN (fil k d) k d = fil (k + 1) d := by
  funext j
  by_cases e : j = k
  · subst e; simp [fil]
  · rw [updN_ne e]; unfold fil
    by_cases h : j < k
    · rw [if_pos h, if_pos (by omega)]
    · rw [if_neg h, if_neg (by omega)]
theorem fil_all (N : Nat) (d : Int) : tabZ N (fil N d) = tabZ N fun _ => d := tabZ_congr fun i hi => by unfold fil; rw [if_pos hi]
theorem fil_zero (N : Nat) (d : Int) : List.replicate N (0 : Int) = tabZ N (fil 0 d) := by
  apply List.ext_getElem
  · simp [tabZ]
  · intro i h1 h2
    simp [tabZ, fil]
/-- A number is appended. -/
theorem nat_append {w w1 : World} {F : List Nat} {B : Asr} {ov : Value} {l : List Nat} {x : Nat} {KV : Kont (Value × World)} (hB : Lcl B) (h : At w F (Star (OwnA ov 3 1 nE l) B) w1) (hl : l.length ≤ 1000000)
    (H : ∀ v' w2, At w F (Star (OwnA v' 3 1 nE (l ++ [x])) B) w2 → KV.run (v', w2)) :
    @efH Try.prog (Builtin.append_ #[22, 22] 22 [ov, .slice (some ⟨w1.heap.size, 0, none⟩) 1 1].toArray) (w1.alloc (.cells #[.int .i64 (x : Nat)] 3)) KV := by
  have h4 := h.kp0 (Lcl.own.star hB) ((Kp.refl [] w1).alloc (.cells #[.int .i64 (x : Nat)] 3))
  refine At.append (xs := [x]) hB h4 nE_len nE_one sl_22 rfl (fun j u hj => ?_) (by omega) (by unfold maxLen; omega) fun v' w5 h5 => H v' w5 h5
  simp [nE] at hj
  rw [add_none, cell_blk alloc_new]
  simpa using hj
/-- The tables of the search for the layers. -/
def LS (lv fv : Value) (N M : Nat) (lay : Nat → Int) (lf : Nat → Nat) (B : Asr) : Asr := Star (OwnA lv 3 1 iE (tabZ N lay)) (Star (OwnA fv 3 1 nE (tabN M lf)) B)
def nlU (U : List Un) (j : Nat) : Nat := match U[j]? with | some u => u.needs.length | none => 0
def lay0 (S : List Nat) : Nat → Int := fun f => if f ∈ S then 0 else -1
theorem lay0_snoc (S : List Nat) (f : Nat) : updN (lay0 S) f 0 = lay0 (S ++ [f]) := by
  funext j
  by_cases e : j = f
  · subst e; simp [lay0]
  · rw [updN_ne e]; simp [lay0, e]
def inI (b : Nat) (sv lv fv : Value) (w : World) (N M : Nat) (U : List Un) (vars s : List Nat) (k : Nat) (ρ : Env) (w' : World) : Prop := ρ 0 = .pointer (some ⟨b, 0, none⟩) ∧ ρ 5 = lv ∧ ρ 7 = fv ∧ ρ 71 = sv ∧ At w [] (Star (OwnA (ρ 10) 3 1 nE (stN vars s k)) (LS lv fv N M (lay0 (stN vars s k)) (nlU U) Emp)) w'
/-- The state of the search for the layers. -/
def LevI (b : Nat) (lv fv : Value) (w : World) (N M : Nat) (U : List Un) (S : List Nat) (n : Nat) (ρ : Env) (w' : World) : Prop :=
  ∃ k lay now done fire, (N - dones done N) * 2 + (if k = 0 then 1 else 0) = n ∧ k + n ≤ 2 * N + 1 ∧ Lv U S k lay now done ∧ FrI U done done k fire ∧ fire.length ≤ M ∧
    ρ 0 = .pointer (some ⟨b, 0, none⟩) ∧ ρ 5 = lv ∧ ρ 7 = fv ∧ ρ 14 = .int .i64 (k : Nat) ∧ At w [] (Star (OwnA (ρ 10) 3 1 nE now) (Star (OwnA (ρ 13) 3 1 nE fire) (LS lv fv N M lay (opN U done) Emp))) w'
/-- In the first pass. -/
def Ps1 (b : Nat) (lv fv nv : Value) (w : World) (N M : Nat) (U : List Un) (k : Nat) (lay : Nat → Int) (now : List Nat) (done : Nat → Bool) (y : Nat) (ρ : Env) (w' : World) : Prop :=
  ρ 0 = .pointer (some ⟨b, 0, none⟩) ∧ ρ 5 = lv ∧ ρ 7 = fv ∧ ρ 14 = .int .i64 (k : Nat) ∧ ρ 117 = nv ∧ ∃ d1 fire, (∀ n, d1 n = true ↔ done n = true ∨ n ∈ now.take y) ∧ FrI U done d1 k fire ∧ dones d1 N = dones done N + y ∧ fire.length ≤ M + y * M ∧
    At w [] (Star (OwnA (ρ 13) 3 1 nE fire) (Star (OwnA nv 3 1 nE now) (LS lv fv N M lay (opN U d1) Emp))) w'
def Ps1i (b : Nat) (lv fv nv pv : Value) (w : World) (N M : Nat) (U : List Un) (k : Nat) (lay : Nat → Int) (now : List Nat) (d2 : Nat → Bool) (f y : Nat) (fire : List Nat) (z : Nat) (ρ : Env) (w' : World) : Prop :=
  ρ 0 = .pointer (some ⟨b, 0, none⟩) ∧ ρ 5 = lv ∧ ρ 7 = fv ∧ ρ 14 = .int .i64 (k : Nat) ∧ ρ 117 = nv ∧ ρ 118 = .int .i64 (now.length : Nat) ∧ ρ 119 = .int .i64 (y : Nat) ∧ ρ 129 = pv ∧ ∃ fire2, (∀ i, i ∈ fire2 ↔ i ∈ fire ∨ (i ∈ (nbF U f).take z ∧ opN U d2 i = 0)) ∧ fire2.length ≤ fire.length + z ∧
    At w [] (Star (OwnA (ρ 13) 3 1 nE fire2) (Star (OwnA nv 3 1 nE now) (LS lv fv N M lay (lfK U d2 ((nbF U f).drop z)) Emp))) w'
/-- In the second pass. -/
def Ps2 (b : Nat) (lv fv xv : Value) (w : World) (N M : Nat) (U : List Un) (k : Nat) (lay : Nat → Int) (fire : List Nat) (d1 : Nat → Bool) (z : Nat) (ρ : Env) (w' : World) : Prop :=
  ρ 0 = .pointer (some ⟨b, 0, none⟩) ∧ ρ 5 = lv ∧ ρ 7 = fv ∧ ρ 14 = .int .i64 (k : Nat) ∧ ρ 152 = xv ∧ ∃ lay2 now2, P2 U lay k fire z lay2 now2 ∧ now2.length ≤ z ∧
    At w [] (Star (OwnA (ρ 10) 3 1 nE now2) (Star (OwnA xv 3 1 nE fire) (LS lv fv N M lay2 (opN U d1) Emp))) w'
theorem rk_lt {U : List Un} {S : List Nat} {N : Nat} (hU : ∀ u ∈ U, u.makes < N) (hS : ∀ x ∈ S, x < N) : ∀ (k f : Nat), Rk U S k f → f < N
  | 0, f, h => hS f h
  | k + 1, f, h => by
    rcases h with h | ⟨u, hu, rfl, _⟩
    · exact rk_lt hU hS k f h
    · exact hU u hu
section
variable {w : World} {b : Nat} {vars : List Nat} {goal : List Fc} {U : List Un} {vv gv fv uv nd fr : Value} {rs : List Ru} {ps : List (Cell1 × List Nat)}
set_option maxHeartbeats 8000000 in
theorem levels_ok (sv : Value) (s : List Nat) (hR : RlR b vars goal U vv gv fv uv nd fr rs ps w) (hs : Vw w sv nE s) (hst : StN vars s) (hS : Sm vars U) :
    Calls Try.prog 30 [.pointer (some ⟨b, 0, none⟩), sv].toArray w fun e w' => ∃ u, e = .returned u ∧ ∃ L, IsLev U (stN vars s vars.length) L ∧ Kp [] w w' ∧ LLV iE w' u (tbI vars L) := by
  refine enter Try.func30 mixed low30 (Nat.le_of_ble_eq_true rfl) ?_
  simp only [L30]
  have hvl := hS.vl
  have hsm := hS.sm
  have hUl := hS.ul
  have hlen := hst.len
  have hU := hS.un
  obtain ⟨N, hNe⟩ : ∃ N, N = vars.sum := ⟨_, rfl⟩
  have hob := hR.obj
  rw [← hNe] at hob hsm hU
  obtain ⟨M, hMe⟩ : ∃ M, M = U.length := ⟨_, rfl⟩
  have hrl : rs.length = M := by rw [hMe, ← hR.eu]; simp
  simp [cell_blk hob]
  refine cl_of (tproper_spec vv sv _ _ (vw_n.2 hR.vvw) (vw_n.2 hs) (by simp; omega)) ?_
  rintro _ w2 ⟨rfl, k2⟩
  rw [hst.ok]
  have hR2 := hR.kp k2
  have hob2 := k2.blk hob (by simp)
  have h2 : At w [] Emp w2 := (At.start rfl).kp0 .emp k2
  have h3 := h2.made (E := 3) (enc := iE) (x := 0) (z := [.int .i64 0]) (n := N) .emp rfl iE_len (by unfold maxLen; omega)
  obtain ⟨lv, hlv⟩ : ∃ lv, lv = Value.slice (some ⟨w2.heap.size, 0, none⟩) N N := ⟨_, rfl⟩
  rw [← hlv, fil_zero N (-1)] at h3
  simp [cell_blk hob2]
  refine gd_mk (by omega) ?_
  simp [← hlv, h3.own.vw.len, tabZ_len]
  obtain ⟨w3, hw3⟩ : ∃ w3, w3 = w2.alloc (.cells (rowOf [.int .i64 0] N).toArray 3) := ⟨_, rfl⟩
  rw [← hw3] at h3 ⊢
  -- all layers -1
  refine range_loop (n := N) (by omega) (fun k ρ w' => ρ 0 = .pointer (some ⟨b, 0, none⟩) ∧ ρ 1 = sv ∧ ρ 5 = lv ∧ At w [] (Star (OwnA lv 3 1 iE (tabZ N (fil k (-1)))) Emp) w') (by simp) (by simp)
    ⟨by simp, by simp, by simp, h3⟩ (by decide) (fun _ _ _ _ h => by simpa using h) (fun _ _ _ _ h => by simpa using h) ?_ ?_
  · rintro k ρ w4 hk hc hlm ⟨g0, g1, g5, h4⟩
    have hO4 := h4.own
    have hki : (k : Int) < (tabZ N (fil k (-1))).length := by rw [tabZ_len]; omega
    simp (disch := omega) [g5, hc, hO4.idx]
    refine h4.store1 .emp iE_len iE_one (k := k) (by rw [tabZ_len]; exact hk) (x := -1) rfl fun w5 h5 => ?_
    rw [tabZ_set hk, fil_succ] at h5
    simp [g0, g1, g5, hc, hlm]
    exact h5
  rintro ρ w4 ⟨g0, g1, g5, h4⟩
  rw [fil_all] at h4
  -- what is left
  have hR4 := hR.kp h4.kp
  have h5 := h4.made (E := 3) (enc := nE) (x := 0) (z := [.int .i64 0]) (n := M) (Lcl.own.star .emp) rfl nE_len (by unfold maxLen; omega)
  obtain ⟨fv2, hfv⟩ : ∃ fv2, fv2 = Value.slice (some ⟨w4.heap.size, 0, none⟩) M M := ⟨_, rfl⟩
  obtain ⟨w5, hw5⟩ : ∃ w5, w5 = w4.alloc (.cells (rowOf [.int .i64 0] M).toArray 3) := ⟨_, rfl⟩
  rw [← hfv, upto_zero M 0 (nlU U), ← hw5] at h5
  have h5 : At w [] (LS lv fv2 N M (fun _ => -1) (upto 0 (nlU U) 0) Emp) w5 := h5.by Imp.sw
  simp [g0, cell_blk hR4.obj, hR4.un.len, hrl]
  refine gd_mk (by omega) ?_
  have hR5 := hR.kp h5.kp
  simp [← hfv, ← hw5, g0, cell_blk hR5.obj, hR5.un.len, hrl]
  refine range_loop (n := M) (by omega) (fun k ρ w' => ρ 0 = .pointer (some ⟨b, 0, none⟩) ∧ ρ 1 = sv ∧ ρ 5 = lv ∧ ρ 7 = fv2 ∧ ρ 57 = uv ∧ At w [] (LS lv fv2 N M (fun _ => -1) (upto k (nlU U) 0) Emp) w') (by simp) (by simp)
    ⟨by simp [g0], by simp [g1], by simp [g5], by simp, by simp, h5⟩ (by decide) (fun _ _ _ _ h => by simpa using h) (fun _ _ _ _ h => by simpa using h) ?_ ?_
  · clear g0 g1 g5
    rintro k ρ w4 hk hc hlm ⟨g0, g1, g5, g7, g57, h4⟩
    have hR4 := hR.kp h4.kp
    obtain ⟨r, hr⟩ : ∃ r, rs[k]? = some r := ⟨_, List.getElem?_eq_getElem (by omega)⟩
    have hrm := List.mem_of_getElem? hr
    have hru : U[k]? = some r.u := by rw [← hR.eu, List.getElem?_map, hr]; rfl
    have ec := hR4.un.cells ruE_len hr
    simp only [ruE] at ec
    have hrk : (k : Int) < rs.length := by omega
    have hnk : nlU U k = r.u.needs.length := by unfold nlU; rw [hru]
    obtain ⟨eb, heb⟩ : ∃ eb, eb = w4.heap.size := ⟨_, rfl⟩
    have hL4 : Lcl (LS lv fv2 N M (fun _ => -1) (upto k (nlU U) 0) Emp) := Lcl.own.star (Lcl.own.star .emp)
    have h5 : At w [] (Star (ObjA eb (.cells #[.int .i64 0, .int .i64 0, .int .i64 0, .int .i64 0, .slice none 0 0] 83 (0, 0))) (LS lv fv2 N M (fun _ => -1) (upto k (nlU U) 0) Emp)) (w4.alloc (.cells #[.int .i64 0, .int .i64 0, .int .i64 0, .int .i64 0, .slice none 0 0] 83 (0, 0))) := by rw [heb]; exact h4.alloc _ hL4
    simp (disch := omega) [g57, hc, hlm, hR4.un.idx, ec, ← heb]
    refine h5.st hL4 (by simp) (by simp [r.nv.2]) fun w6 h6 => ?_
    have he6 := h6.obj
    simp at he6
    rw [heb] at he6
    have h7 := h6.drop
    have hO7 := (h7.by Imp.sw).own
    have hn7 := (hR.kp h7.kp).needs r hrm
    have hk2 : (k : Int) < (tabN M (upto k (nlU U) 0)).length := by rw [tabN_len]; omega
    simp (disch := omega) [g7, hc, cell_blk he6, hn7.len, hO7.idx]
    refine (h7.by Imp.sw).store1 (Lcl.own.star .emp) nE_len nE_one (k := k) (by rw [tabN_len]; exact hk) (x := nlU U k) (by rw [hnk]; rfl) fun w8 h8 => ?_
    rw [tabN_set hk, upto_succ k (nlU U) 0] at h8
    simp [g0, g1, g5, g7, g57, hc, hlm]
    exact h8.by Imp.sw
  clear g0 g1 g5 h5 hR5
  rintro ρ w4 ⟨g0, g1, g5, g7, g57, h4⟩
  have h4 : At w [] (LS lv fv2 N M (fun _ => -1) (nlU U) Emp) w4 := by
    unfold LS at h4 ⊢
    rw [upto_all] at h4
    exact h4
  -- the facts of the state
  have hLS : ∀ lay lf, Lcl (LS lv fv2 N M lay lf Emp) := fun _ _ => Lcl.own.star (Lcl.own.star .emp)
  have h5 : At w [] (Star (OwnA (.slice none 0 0) 3 1 nE (stN vars s 0)) (LS lv fv2 N M (lay0 (stN vars s 0)) (nlU U) Emp)) w4 := At.nil (hLS _ _) h4
  have hs4 := hs.kp0 h4.kp
  simp [g1, hs4.len]
  refine range_loop (n := s.length) (by omega) (inI b sv lv fv2 w N M U vars s) (by simp) (by simp)
    ⟨by simp [g0], by simp [g5], by simp [g7], by simp, by simpa using h5⟩ (by decide) (fun _ _ _ _ h => by unfold inI at h ⊢; simpa using h) (fun _ _ _ _ h => by unfold inI at h ⊢; simpa using h) ?_ ?_
  · clear g0 g1 g5 g7 g57 h5
    rintro k ρ w5 hk hc hlm ⟨g0, g5, g7, g71, h5⟩
    have hkp5 := h5.kp
    have hs5 := hs.kp0 hkp5
    have hR5 := hR.kp hkp5
    obtain ⟨x, hx⟩ : ∃ x, s[k]? = some x := ⟨_, List.getElem?_eq_getElem hk⟩
    have hxd : s.getD k 0 = x := by simp [List.getD, hx]
    have hxr := hst.rng k (by omega)
    rw [hxd] at hxr
    have hnum := numF_lt (vars := vars) (f := (k, x)) (by show k < vars.length; omega) hxr
    rw [← hNe] at hnum
    obtain ⟨f, hf⟩ : ∃ f, f = psum vars k + x := ⟨_, rfl⟩
    have hfN : f < N := by rw [hf]; exact hnum
    have ef : ((psum vars k : Nat) : Int) + (x : Nat) = (f : Int) := by rw [hf]; simp
    have hfi : (k : Int) < (firsts vars vars.length).length := by simp [firsts]; omega
    have efc := nE_cell hR5.first (firsts_at (vars := vars) (show k < vars.length by omega))
    have hO5 := h5.drop.own
    have hfi2 : (f : Int) < (tabZ N (lay0 (stN vars s k))).length := by rw [tabZ_len]; omega
    have hst2 : stN vars s (k + 1) = stN vars s k ++ [f] := by rw [stN_succ, hxd, ← hf]
    simp (disch := omega) [g0, g5, g71, hc, hlm, hs5.idx, nE_cell hs5 hx, cell_blk hR5.obj, hR5.first.idx, efc, ef, wrap_i64, hO5.idx]
    refine (h5.by Imp.sw).store1 (Lcl.own.star (Lcl.own.star .emp)) iE_len iE_one (k := f) (by rw [tabZ_len]; exact hfN) (x := 0) rfl fun w6 h6 => ?_
    rw [tabZ_set hfN, lay0_snoc, ← hst2] at h6
    have h6 : At w [] (Star (OwnA (ρ 10) 3 1 nE (stN vars s k)) (LS lv fv2 N M (lay0 (stN vars s (k + 1))) (nlU U) Emp)) w6 := h6.by Imp.sw
    have hR6 := hR.kp h6.kp
    have efc6 := nE_cell hR6.first (firsts_at (vars := vars) (show k < vars.length by omega))
    simp (disch := omega) [g0, cell_blk hR6.obj, hR6.first.idx, efc6, ef, wrap_i64]
    have hsl := stN_len vars s k
    refine nat_append (hLS _ _) h6 (by omega) fun v' w7 h7 => ?_
    rw [← hst2] at h7
    simp [g0, g5, g7, g71, hc, hlm]
    exact ⟨by simp [g0], by simp [g5], by simp [g7], by simp [g71], by simpa using h7⟩
  clear g0 g1 g5 g7 g57 h5 h4 hs4
  rintro ρ w4 ⟨g0, g5, g7, g71, h4⟩
  rw [hlen] at h4
  -- those that need nothing
  have hR4 := hR.kp h4.kp
  simp only [thenK_nrm]
  refine seq_cut (fun ρ w' => ρ 0 = .pointer (some ⟨b, 0, none⟩) ∧ ρ 5 = lv ∧ ρ 7 = fv2 ∧ At w [] (Star (OwnA (ρ 10) 3 1 nE (stN vars s vars.length)) (Star (OwnA (ρ 13) 3 1 nE (frF U)) (LS lv fv2 N M (lay0 (stN vars s vars.length)) (nlU U) Emp))) w') ?_ ?_
  · have hfl := frF_len U
    simp [g0, cell_blk hR4.obj]
    refine cl_of (cloneI_spec fr (frF U) hR4.free (by omega)) ?_
    rintro xv w5 n5
    have h5 := At.nw (Lcl.own.star (hLS _ _)) h4 n5
    simp [g0, g5, g7]
    exact h5.by Imp.sw
  clear g0 g5 g7 g71 h4 hR4
  rintro ρ w4 ⟨g0, g5, g7, h4⟩
  obtain ⟨S, hSe⟩ : ∃ S, S = stN vars s vars.length := ⟨_, rfl⟩
  rw [← hSe] at h4 ⊢
  have hSlt : ∀ x ∈ S, x < N := fun x hx => by
    rw [hSe] at hx
    unfold stN at hx
    obtain ⟨v, hv, rfl⟩ := List.mem_map.1 hx
    have hv := List.mem_range.1 hv
    have := numF_lt (vars := vars) (f := (v, s.getD v 0)) hv (hst.rng v hv)
    rw [← hNe] at this
    exact this
  have hSn : S.Nodup := by
    rw [hSe]
    unfold stN
    rw [List.nodup_iff_pairwise_ne, List.pairwise_map]
    refine List.Pairwise.imp_of_mem ?_ List.pairwise_lt_range
    intro a c ha hc hac e
    have ha := List.mem_range.1 ha
    have hc := List.mem_range.1 hc
    have := numF_inj (vars := vars) (f := (a, s.getD a 0)) (g := (c, s.getD c 0)) ha (hst.rng a ha) hc (hst.rng c hc) e
    have := congrArg Prod.fst this
    simp at this
    omega
  have hdz : dones (fun _ => false) N = 0 := by unfold dones; rw [List.countP_eq_zero]; simp
  have hnl0 : nlU U = opN U fun _ => false := by
    funext j
    unfold opN nlU
    cases U[j]? with
    | none => rfl
    | some u => exact opens_none.symm
  rw [hnl0] at h4
  -- the search
  refine seq_cut (fun ρ w' => ρ 0 = .pointer (some ⟨b, 0, none⟩) ∧ ρ 5 = lv ∧ ∃ L, IsLev U S L ∧ At w [] (Star (OwnA lv 3 1 iE (tabZ N L)) Emp) w') ?_ ?_
  · simp
    refine loop_inv (LevI b lv fv2 w N M U S) _
      ⟨0, _, S, _, frF U, rfl, by rw [hdz]; simp; omega, Lv.init hSn, FrI.zero, by rw [hMe]; exact frF_len U, by simp [g0], by simp [g5], by simp [g7], by simp, by unfold lay0 at h4; simpa using h4⟩ ?_
    clear g0 g5 g7 h4
    rintro n ρ w3 ⟨k, lay, now, done, fire, rfl, hkn, hL, hF, hfl, g0, g5, g7, g14, h3⟩
    have hdl := dones_le (done := done) (N := N)
    have hrlt := rk_lt hU.made hSlt
    have hnowN : ∀ f ∈ now, f < N := fun f hf => by
      have h1 := (hL.nw f).1 hf
      exact hrlt k f ((hL.rk k f (Nat.le_refl _)).2 ⟨by omega, by omega⟩)
    have hnowl := nodup_le now N hL.nod hnowN
    have hnv := h3.own.vw
    have hxv := h3.drop.own.vw
    have hkb : k ≤ 2000 := by omega
    obtain ⟨nv, hnve⟩ : ∃ nv, nv = ρ 10 := ⟨_, rfl⟩
    obtain ⟨xv, hxve⟩ : ∃ xv, xv = ρ 13 := ⟨_, rfl⟩
    rw [← hnve, ← hxve] at h3
    rw [← hnve] at hnv
    rw [← hxve] at hxv
    refine seq_cut (fun ρ w' => ρ 0 = .pointer (some ⟨b, 0, none⟩) ∧ ρ 5 = lv ∧ ρ 7 = fv2 ∧ ρ 14 = .int .i64 (k : Nat) ∧ ρ 10 = nv ∧ ρ 13 = xv ∧ (now ≠ [] ∨ fire ≠ []) ∧ w' = w3) ?_ ?_
    · by_cases hn0 : now = []
      case pos =>
        have hnp : (0 < now.length) = False := by rw [hn0]; simp
        by_cases hx0 : fire = []
        case pos =>
          have hxp : (0 < fire.length) = False := by rw [hx0]; simp
          simp [← hnve, ← hxve, hnv.len, hxv.len, hnp, hxp]
          refine ⟨g0, g5, lay, Lv.fin (by rw [← hn0]; exact hL) fun hk u hu hne => ?_, h3.drop.drop.by (Imp.un Imp.dr)⟩
          obtain ⟨i, hi, hiu⟩ := List.getElem_of_mem hu
          have := (hF i).2 ⟨u, by rw [List.getElem?_eq_getElem hi, hiu], by
            rw [hne]; rfl, .inr ⟨hk, hne⟩⟩
          rw [hx0] at this
          cases this
        case neg =>
          have hfp : (0 < fire.length) = True := by simp; have := List.length_pos_iff.2 hx0; omega
          simp [← hnve, ← hxve, hnv.len, hxv.len, hnp, hfp]
          exact ⟨g0, g5, g7, g14, .inr hx0⟩
      case neg =>
        have hnp : (0 < now.length) = True := by simp; have := List.length_pos_iff.2 hn0; omega
        simp [← hnve, ← hxve, hnv.len, hxv.len, hnp]
        exact ⟨g0, g5, g7, g14, .inl hn0⟩
    clear g0 g5 g7 g14 hnve hxve
    rintro ρ w3 ⟨g0, g5, g7, g14, g10, g13, hne, rfl⟩
    simp [g10, hnv.len]
    have hM : M ≤ 160 := by omega
    refine range_loop (n := now.length) (by omega) (Ps1 b lv fv2 nv w N M U k lay now done) (by simp) (by simp)
      ⟨by simp [g0], by simp [g5], by simp [g7], by simp [g14], by simp, done, fire, by simp, hF, by simp, by simpa using hfl, by simpa [g13] using h3.by Imp.sw⟩ (by decide) (fun _ _ _ _ h => by unfold Ps1 at h ⊢; simpa using h) (fun _ _ _ _ h => by unfold Ps1 at h ⊢; simpa using h) ?_ ?_
    · clear g0 g5 g7 g14 g10 g13 hxv hnv h3
      rintro y ρ w4 hy hcy hly ⟨g0, g5, g7, g14, g117, d1, fire1, hd1, hF1, hdn1, hfl1, h4⟩
      have hkp4 := h4.kp
      have hR4 := hR.kp hkp4
      have hnv4 := h4.drop.own.vw
      obtain ⟨f, hf⟩ : ∃ f, now[y]? = some f := ⟨_, List.getElem?_eq_getElem hy⟩
      have hfm := List.mem_of_getElem? hf
      have hfN := hnowN f hfm
      obtain ⟨p, hp⟩ : ∃ p, ps[f]? = some p := ⟨_, List.getElem?_eq_getElem (by
        have := congrArg List.length hR.ep
        simp at this
        omega)⟩
      have hp2 : p.2 = nbF U f := by
        have e1 : (ps.map (·.2))[f]? = some p.2 := by rw [List.getElem?_map, hp]; rfl
        rw [hR.ep, ← hNe] at e1
        simp [hfN] at e1
        exact e1.symm
      have hpl : (f : Int) < ps.length := by have := (List.getElem?_eq_some_iff.1 hp).1; omega
      have ei : w4.cell? (nd.adr.add f) = some p.1.1 := by simpa using hR4.needed.at_ sv1_len hp (o := 0) (u := p.1.1) rfl
      have hrow := hR4.rows p (List.mem_of_getElem? hp)
      rw [hp2] at hrow
      have hnl2 := nbF_len U f
      have hyi : (y : Int) < now.length := by omega
      have hdf : done f = false := by
        cases h : done f with
        | false => rfl
        | true =>
          have h1 := (hL.dn f).1 h
          have h2 := (hL.nw f).1 hfm
          omega
      have hd1f : d1 f = false := by
        cases h : d1 f with
        | false => rfl
        | true =>
          rcases (hd1 f).1 h with h1 | h1
          · rw [hdf] at h1; cases h1
          · exfalso
            obtain ⟨j, hj, hj2⟩ := List.getElem_of_mem h1
            rw [List.getElem_take] at hj2
            simp at hj
            obtain ⟨hy3, hy4⟩ := List.getElem?_eq_some_iff.1 hf
            exact (List.pairwise_iff_getElem.1 (List.nodup_iff_pairwise_ne.1 hL.nod)) j y (by omega) hy3 (by omega) (hj2.trans hy4.symm)
      simp (disch := omega) [g0, g117, hcy, hly, hnv4.idx, nE_cell hnv4 hf, cell_blk hR4.obj, hR4.needed.idx, ei, hrow.len]
      obtain ⟨d2, hd2⟩ : ∃ d2, d2 = updN d1 f true := ⟨_, rfl⟩
      have h5 := h4
      rw [lfK_start hU.nod hd1f, ← hd2] at h5
      refine range_loop (n := (nbF U f).length) (by omega) (Ps1i b lv fv2 nv p.1.1 w N M U k lay now d2 f y fire1) (by simp) (by simp)
        ⟨by simp [g0], by simp [g5], by simp [g7], by simp [g14], by simp [g117], by simp [hly], by simp [hcy], by simp, fire1, by simp, by simp, by simpa using h5⟩ (by decide) (fun _ _ _ _ h => by unfold Ps1i at h ⊢; simpa using h) (fun _ _ _ _ h => by unfold Ps1i at h ⊢; simpa using h) ?_ ?_
      rotate_left
      · rintro ρ w6 ⟨g0, g5, g7, g14, g117, g118, g119, g129, fire2, hfr2, hfl2, h6⟩
        rw [List.drop_of_length_le (Nat.le_refl _), lfK_nil] at h6
        rw [List.take_length] at hfr2
        simp [g118, g119]
        refine ⟨g0, g5, g7, g14, g117, d2, fire2, fun n => ?_, ?_, ?_, ?_, h6⟩
        · rw [hd2, take_snoc hf]
          by_cases e : n = f
          · subst e; simp
          · rw [updN_ne e, hd1]; simp [e]
        · rw [hd2]
          refine hF1.step hd1f hdf fun i => ?_
          rw [hfr2, ← hd2]
          refine or_congr Iff.rfl (and_congr_right fun hi => ?_)
          unfold opN
          obtain ⟨u, hu, _⟩ := nbF_mem.1 hi
          rw [hu]
          simp
        · rw [hd2, dones_upd hfN hd1f, hdn1]; omega
        · rw [Nat.add_mul, Nat.one_mul]; omega
      clear g0 g5 g7 g14 g117 h4 h5 hR4 hnv4 ei hrow hkp4
      rintro z ρ w5 hz hcz hlz ⟨g0, g5, g7, g14, g117, g118, g119, g129, fire2, hfr2, hfl2, h5⟩
      obtain ⟨i, hi⟩ : ∃ i, (nbF U f)[z]? = some i := ⟨_, List.getElem?_eq_getElem hz⟩
      have him := List.mem_of_getElem? hi
      obtain ⟨u, hui, huf⟩ := nbF_mem.1 him
      have hum := List.mem_of_getElem? hui
      have hiM : i < M := by rw [hMe]; exact (List.getElem?_eq_some_iff.1 hui).1
      obtain ⟨rest, hrest⟩ : ∃ rest, rest = (nbF U f).drop (z + 1) := ⟨_, rfl⟩
      have hdr : (nbF U f).drop z = i :: rest := by rw [List.drop_eq_getElem_cons hz, (List.getElem?_eq_some_iff.1 hi).2, hrest]
      have hir2 : i ∉ rest := by
        have h1 := (nbF_nodup U f).sublist (List.drop_sublist z (nbF U f))
        rw [hdr] at h1
        exact (List.nodup_cons.1 h1).1
      rw [hdr] at h5
      have hR5 := hR.kp h5.kp
      have hrow5 := hR5.rows p (List.mem_of_getElem? hp)
      rw [hp2] at hrow5
      unfold LS at h5
      have h6 := h5.by Imp.fr4
      have hO := h6.own
      have hi2 : (i : Int) < (tabN M (lfK U d2 (i :: rest))).length := by rw [tabN_len]; omega
      have cv : w5.cell? ⟨fv2.blk, i, none⟩ = some (.int .i64 (opN U d2 i + 1 : Nat)) := by
        have := hO.cell nE_len (tabN_at (g := lfK U d2 (i :: rest)) hiM) (o := 0) (by omega)
        simpa [nE, lfK] using this
      obtain ⟨c, hc⟩ : ∃ c, c = opN U d2 i := ⟨_, rfl⟩
      have hcl : c ≤ 100000 := by
        have h3 : opN U d2 i = opens d2 u.needs := by unfold opN; rw [hui]
        rw [hc, h3]
        have h1 := nodup_le u.needs N (hU.nod u hum) (hU.rng u hum)
        have h2 := List.countP_le_length (p := fun n => !d2 n) (l := u.needs)
        unfold opens
        omega
      rw [← hc] at cv
      simp only [Int.natCast_add, Int.natCast_one] at cv
      have ez2 : (c : Int) + 1 - 1 = (c : Int) := by omega
      have hzi : (z : Int) < (nbF U f).length := by omega
      simp (disch := omega) [g7, g129, hcz, hlz, hrow5.idx, nE_cell hrow5 hi, hO.idx, cv, ez2, wrap_i64]
      refine h6.store1 (Lcl.own.star (Lcl.own.star (Lcl.own.star .emp))) nE_len nE_one (k := i) (by rw [tabN_len]; exact hiM) (x := c) rfl fun w6 h7 => ?_
      rw [tabN_set hiM, hc, lfK_step hir2] at h7
      have hO7 := h7.own
      have hi3 : (i : Int) < (tabN M (lfK U d2 rest)).length := by rw [tabN_len]; omega
      have cv7 : w6.cell? ⟨fv2.blk, i, none⟩ = some (.int .i64 (c : Nat)) := by
        have := hO7.cell nE_len (tabN_at (g := lfK U d2 rest) hiM) (o := 0) (by omega)
        rw [hc]
        simpa [nE, lfK, hir2] using this
      have h8 : At w [] (Star (OwnA (ρ 13) 3 1 nE fire2) (Star (OwnA nv 3 1 nE now) (LS lv fv2 N M lay (lfK U d2 rest) Emp))) w6 := h7.by Imp.bk4
      have hsuc : ∀ fire3 : List Nat, (∀ j, j ∈ fire3 ↔ j ∈ fire2 ∨ (j = i ∧ c = 0)) → ∀ j, j ∈ fire3 ↔ j ∈ fire1 ∨ (j ∈ (nbF U f).take (z + 1) ∧ opN U d2 j = 0) := fun fire3 h j => by
        rw [h, hfr2, take_snoc hi, List.mem_append, List.mem_singleton]
        constructor
        · rintro ((h1 | ⟨h1, h2⟩) | ⟨rfl, h2⟩)
          · exact .inl h1
          · exact .inr ⟨.inl h1, h2⟩
          · exact .inr ⟨.inr rfl, by omega⟩
        · rintro (h1 | ⟨h1 | rfl, h2⟩)
          · exact .inl (.inl h1)
          · exact .inl (.inr ⟨h1, h2⟩)
          · exact .inr ⟨rfl, by omega⟩
      by_cases hz0 : c = 0
      case neg =>
        have hz1 : ((c : Int) == 0) = false := by simp; omega
        simp (disch := omega) [g7, hO7.idx, cv7, hz1, g0, g5, g14, g117, g118, g119, g129, hcz, hlz]
        refine ⟨by simp [g0], by simp [g5], by simp [g7], by simp [g14], by simp [g117], by simp [g118], by simp [g119], by simp [g129], fire2, hsuc fire2 fun j => ?_, by omega, ?_⟩
        · simp [hz0]
        · rw [← hrest]; simpa using h8
      case pos =>
        have hz1 : ((c : Int) == 0) = true := by simp; omega
        simp (disch := omega) [g7, hO7.idx, cv7, hz1]
        refine nat_append (Lcl.own.star (hLS _ _)) h8 (by
          have : y * M ≤ 768 * 160 := Nat.mul_le_mul (by omega) hM
          omega) fun v' w7 h9 => ?_
        simp [g0, g5, g7, g14, g117, g118, g119, g129, hcz, hlz]
        refine ⟨by simp [g0], by simp [g5], by simp [g7], by simp [g14], by simp [g117], by simp [g118], by simp [g119], by simp [g129], fire2 ++ [i], hsuc _ fun j => ?_, by simp; omega, ?_⟩
        · simp [hz0]
        · rw [← hrest]; simpa using h9
    clear g0 g5 g7 g14 g10 g13 hxv hnv h3
    rintro ρ w4 ⟨g0, g5, g7, g14, g117, d1, fire1, hd1, hF1, hdn1, hfl1, h4⟩
    rw [List.take_length] at hd1
    obtain ⟨xv1, hxv1⟩ : ∃ xv1, xv1 = ρ 13 := ⟨_, rfl⟩
    rw [← hxv1] at h4
    have hfb : fire1.length ≤ 200000 := by
      have : now.length * M ≤ 768 * 160 := Nat.mul_le_mul (by omega) hM
      omega
    have h5 : At w [] (Star (OwnA (.slice none 0 0) 3 1 nE ([] : List Nat)) (Star (OwnA xv1 3 1 nE fire1) (LS lv fv2 N M lay (opN U d1) Emp))) w4 := At.nil (Lcl.own.star (hLS _ _)) (h4.by (Imp.un Imp.dr))
    simp [← hxv1, h4.own.vw.len]
    refine range_loop (n := fire1.length) (by omega) (Ps2 b lv fv2 xv1 w N M U k lay fire1 d1) (by simp) (by simp)
      ⟨by simp [g0], by simp [g5], by simp [g7], by simp [g14], by simp, lay, [], P2.init hL, by simp, by simpa using h5⟩ (by decide) (fun _ _ _ _ h => by unfold Ps2 at h ⊢; simpa using h) (fun _ _ _ _ h => by unfold Ps2 at h ⊢; simpa using h) ?_ ?_
    rotate_left
    · clear g0 g5 g7 g14 g117 h4 h5 hxv1
      rintro ρ w5 ⟨g0, g5, g7, g14, g152, lay2, now2, hP2, hn2, h5⟩
      have hLn := hL.next hd1 hF1 hP2
      obtain ⟨k1, hk1⟩ : ∃ k1, k1 = k + 1 := ⟨_, rfl⟩
      have ek : (k : Int) + 1 = (k1 : Int) := by omega
      rw [← hk1] at hLn
      have h6 : At w [] (Star (OwnA (.slice none 0 0) 3 1 nE ([] : List Nat)) (Star (OwnA (ρ 10) 3 1 nE now2) (LS lv fv2 N M lay2 (opN U d1) Emp))) w5 := At.nil (Lcl.own.star (hLS _ _)) (h5.by (Imp.un Imp.dr))
      have hdl1 := dones_le (done := d1) (N := N)
      have hlt : (N - dones d1 N) * 2 < (N - dones done N) * 2 + (if k = 0 then 1 else 0) := by
        rcases hne with h | h
        · have := List.length_pos_iff.2 h
          split <;> omega
        · have hk0 : k = 0 := by
            rcases Nat.eq_zero_or_pos k with h1 | h1
            · exact h1
            · exfalso
              obtain ⟨i, hi⟩ : ∃ i, i ∈ fire := List.exists_mem_of_ne_nil _ h
              obtain ⟨u, _, h2, h3 | h3⟩ := (hF i).1 hi
              · exact h3 h2
              · omega
          rw [if_pos hk0]
          omega
      simp (disch := omega) [g14, wrap_i64, ek]
      refine ⟨(N - dones d1 N) * 2, hlt, k1, lay2, now2, d1, [], by simp [hk1], by omega, hLn, FrI.nil (by omega), by simp, by simp [g0], by simp [g5], by simp [g7], by simp, ?_⟩
      simpa using h6.by Imp.sw
    clear g0 g5 g7 g14 g117 h4 h5 hxv1
    rintro z ρ w5 hz hcz hlz ⟨g0, g5, g7, g14, g152, lay2, now2, hP2, hn2, h5⟩
    have hR5 := hR.kp h5.kp
    have hxv5 := h5.drop.own.vw
    obtain ⟨i, hi⟩ : ∃ i, fire1[z]? = some i := ⟨_, List.getElem?_eq_getElem hz⟩
    have him := List.mem_of_getElem? hi
    obtain ⟨u, hui, _⟩ := (hF1 i).1 him
    have hum := List.mem_of_getElem? hui
    have hiM : i < M := by rw [hMe]; exact (List.getElem?_eq_some_iff.1 hui).1
    obtain ⟨r, hr⟩ : ∃ r, rs[i]? = some r := ⟨_, List.getElem?_eq_getElem (by omega)⟩
    have hru : r.u = u := by
      have e1 : (rs.map (·.u))[i]? = some r.u := by rw [List.getElem?_map, hr]; rfl
      rw [hR.eu, hui] at e1
      exact (Option.some.inj e1).symm
    have hir : (i : Int) < rs.length := by omega
    have c3 := hR5.un.fld ruE_len hr (o := 3) (u := .int .i64 (u.makes : Nat)) (by rw [← hru]; rfl)
    have hmk : mkU U i = u.makes := by unfold mkU; rw [hui]
    obtain ⟨f, hf⟩ : ∃ f, f = u.makes := ⟨_, rfl⟩
    have hfN : f < N := by rw [hf]; exact hU.made u hum
    rw [← hf] at c3 hmk
    have h6 := h5.by Imp.fr3
    have hO6 := h6.own
    have hfi : (f : Int) < (tabZ N lay2).length := by rw [tabZ_len]; omega
    have cl6 : w5.cell? ⟨lv.blk, f, none⟩ = some (.int .i64 (lay2 f)) := by
      have := hO6.cell iE_len (tabZ_at (g := lay2) hfN) (o := 0) (by omega)
      simpa [iE] using this
    have hzi : (z : Int) < fire1.length := by omega
    have h5 : At w [] (Star (OwnA (ρ 10) 3 1 nE now2) (Star (OwnA xv1 3 1 nE fire1) (LS lv fv2 N M lay2 (opN U d1) Emp))) w5 := h5
    by_cases hneg : lay2 f < 0
    · simp (disch := omega) [g0, g5, g152, hcz, hlz, hxv5.idx, nE_cell hxv5 hi, cell_blk hR5.obj, hR5.un.idx, c3, hO6.idx, cl6, hneg, g14, wrap_i64]
      refine h6.store1 (Lcl.own.star (Lcl.own.star (Lcl.own.star .emp))) iE_len iE_one (k := f) (by rw [tabZ_len]; exact hfN) (x := (k : Int) + 1) rfl fun w6 h7 => ?_
      rw [tabZ_set hfN] at h7
      have h8 : At w [] (Star (OwnA (ρ 10) 3 1 nE now2) (Star (OwnA xv1 3 1 nE fire1) (LS lv fv2 N M (updN lay2 f ((k : Int) + 1)) (opN U d1) Emp))) w6 := h7.by Imp.bk3
      simp
      refine nat_append (Lcl.own.star (hLS _ _)) h8 (by omega) fun v' w7 h9 => ?_
      simp [g0, g5, g7, g14, g152, hcz, hlz]
      have hh := hP2.hit hi (by rw [hmk]; exact hneg)
      rw [hmk] at hh
      exact ⟨by simp [g0], by simp [g5], by simp [g7], by simp [g14], by simp [g152], _, _, hh, by simp; omega, by simpa using h9⟩
    · simp (disch := omega) [g0, g5, g152, hcz, hlz, hxv5.idx, nE_cell hxv5 hi, cell_blk hR5.obj, hR5.un.idx, c3, hO6.idx, cl6, hneg, g7, g14]
      exact ⟨by simp [g0], by simp [g5], by simp [g7], by simp [g14], by simp [g152], _, _, hP2.miss hi (by rw [hmk]; exact hneg), by omega, by simpa using h5⟩
  clear g0 g5 g7 h4
  rintro ρ w5 ⟨g0, g5, L, hL, h5⟩
  have hvZ := h5.own.vw
  rw [hNe] at hvZ
  simp [g0, g5]
  refine cl_of (split_spec lv L (hR.kp h5.kp) hvZ hS.vl hS.sm) ?_
  rintro u6 w6 ⟨k6, h6⟩
  simp
  exact ⟨L, hL, h5.kp.trans k6, h6⟩
end
end Go.Proofs.Ytjpbkljnllkneaa
