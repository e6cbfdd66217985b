/-
  A part of the proofs of this seat's statements (RxWA); no conditions beyond those each theorem names.
-/
import Derived.Test.YtjpbkljnllkneaaRxW9
set_option maxRecDepth 100000
set_option linter.unusedSimpArgs false
set_option linter.unusedVariables false
namespace Go.Proofs.Ytjpbkljnllkneaa
open Go Go.W Go.Tk Go.Rx Go.Maps
def isSup (V : Nat → Nat) (n : Nat) (u : Un) : Bool := decide (u.makes = n) && decide (gr V u.needs + u.cost = V n)
/-- The supporter of a fact. -/
def supV (U : List Un) (V : Nat → Nat) (n : Nat) : Int × Int := if Inf ≤ V n then (-1, -1) else match U.find? (isSup V n) with
  | some u => (u.op, u.eff)
  | none => (-1, -1)
def supF (vars s : List Nat) (U : List Un) (V : Nat → Nat) (f : Fa) : Int × Int := if inR (vars.map iN) f = true then if ((s.getD f.1.toNat 0 : Nat) : Int) = f.2 then (-1, -1) else supV U V (numF vars (f.1.toNat, f.2.toNat)) else (-1, -1)
theorem find_at {α : Type} {l : List α} {p : α → Bool} {k : Nat} {x : α} (h : l[k]? = some x) (hp : p x = true) (hn : ∀ y ∈ l.take k, p y = false) : l.find? p = some x := by
  have e : l = l.take k ++ (x :: l.drop (k + 1)) := by
    obtain ⟨hk, e⟩ := List.getElem?_eq_some_iff.1 h
    rw [← e, ← List.drop_eq_getElem_cons hk, List.take_append_drop]
  rw [e, List.find?_append, List.find?_eq_none.2 fun y hy => by simp [hn y hy]]
  simp [hp]
theorem find_no {α : Type} {l : List α} {p : α → Bool} (hn : ∀ y ∈ l, p y = false) : l.find? p = none := List.find?_eq_none.2 fun y hy => by simp [hn y hy]
def faV (f : Fa) : Value := .agg #[.int .i64 f.1, .int .i64 f.2]
def prV (a : Int × Int) : Value := .tuple #[.int .i64 a.1, .int .i64 a.2]
theorem all_take_succ {α : Type} {l : List α} {k : Nat} {x : α} {P : α → Prop} (h : l[k]? = some x) (h1 : ∀ y ∈ l.take k, P y) (h2 : P x) : ∀ y ∈ l.take (k + 1), P y := by
  rw [take_snoc h]
  intro y hy
  rcases List.mem_append.1 hy with h3 | h3
  · exact h1 y h3
  · simp at h3; subst h3; exact h2
def NoSup (U : List Un) (V : Nat → Nat) (n k : Nat) : Prop := ∀ y ∈ U.take k, isSup V n y = false
section
variable {w : World} {b : Nat} {vars : List Nat} {goal : List Fc} {U : List Un} {vv gv fv uv nd fr : Value} {rs : List Ru} {ps : List (Cell1 × List Nat)}
set_option maxHeartbeats 2000000 in
theorem supporter_ok (sv : Value) (s : List Nat) (f : Fa) (hR : RlR b vars goal U vv gv fv uv nd fr rs ps w) (hs : Vw w sv nE s) (hst : StN vars s) (hS : Sm vars U) :
    Calls Try.prog 25 [.pointer (some ⟨b, 0, none⟩), sv, faV f].toArray w fun e w' => ∃ x, e = .returned x ∧ (∀ V, IsVal U (stN vars s vars.length) V → x = prV (supF vars s U V f)) ∧ Kp [] w w' := by
  refine enter Try.func25 mixed low25 (Nat.le_of_ble_eq_true rfl) ?_
  simp only [L25]
  have hvl := hS.vl
  have hsm := hS.sm
  have hlen := hst.len
  obtain ⟨xb, hxb⟩ : ∃ xb, xb = w.heap.size := ⟨_, rfl⟩
  have k1 : Kp [] w (w.alloc (.cells #[.int .i64 f.1, .int .i64 f.2] 57)) := (Kp.refl [] w).alloc _
  have ox : (w.alloc (.cells #[.int .i64 f.1, .int .i64 f.2] 57)).heap[xb]? = some (.cells #[.int .i64 f.1, .int .i64 f.2] 57 (0, 0)) := by rw [hxb]; exact alloc_new
  obtain ⟨w1, hw1⟩ : ∃ w1, w1 = w.alloc (.cells #[.int .i64 f.1, .int .i64 f.2] 57) := ⟨_, rfl⟩
  rw [← hw1] at k1 ox
  have hR1 := hR.kp k1
  have hs1 := hs.kp0 k1
  simp [faV, ← hxb, ← hw1, cell_blk hR1.obj]
  refine cl_of (tproper_spec vv sv _ _ (vw_n.2 (hR1.kp ((Kp.refl [] w1).drew)).vvw) (vw_n.2 (hs1.kp0 ((Kp.refl [] w1).drew))) (by simp; omega)) ?_
  rintro _ w2 ⟨rfl, k2⟩
  have k2 : Kp [] w1 w2 := ((Kp.refl [] w1).drew).trans k2
  have hR2 := hR1.kp k2
  have ox2 := k2.blk ox (by simp)
  rw [hst.ok]
  have r2 := rd_fa (f := f) ox2
  have hl2 := (At.start rfl : At w2 [] Emp w2).lit (xs := [f]) (enc := faE) (E := 57) (sz := 2) (cs := #[.int .i64 f.1, .int .i64 f.2]) (m := 1) .emp (by simp [faE]) faE_len (by simp [maxLen]) rfl
  simp [cell_blk hR2.obj, cell_blk ox2, r2, rowOf]
  have hR3 := hR2.kp hl2.kp
  refine cl_of (tfacts_spec vv _ (vars.map iN) [f] (vw_n.2 hR3.vvw) hl2.own.vw (by simp)) ?_
  rintro _ w4 ⟨rfl, k4⟩
  have k24 := hl2.kp.trans k4
  have hR4 := hR2.kp k24
  have ox4 := k24.blk ox2 (by simp)
  have hs4 := (hs1.kp0 k2).kp0 k24
  have k14 := k2.trans k24
  rw [propF_one]
  cases hin : inR (vars.map iN) f with
  | false =>
    simp
    refine ⟨fun V _ => ?_, k1.trans k14⟩
    unfold supF prV
    rw [hin]
    rfl
  | true =>
    obtain ⟨n1, n2, n3⟩ := fa_nat (nvars := vars) rfl hin
    obtain ⟨⟨p, q⟩, hpq⟩ : ∃ g : Fc, g = (f.1.toNat, f.2.toNat) := ⟨_, rfl⟩
    rw [← hpq] at n1
    have e1 : f.1 = (p : Int) := by rw [← n1]; rfl
    have e2 : f.2 = (q : Int) := by rw [← n1]; rfl
    injection hpq with hp hq
    rw [← hp] at n2 n3
    rw [← hq] at n3
    rw [e1, e2] at ox4
    obtain ⟨y, hy⟩ : ∃ y, s[p]? = some y := ⟨_, List.getElem?_eq_getElem (by omega)⟩
    have hyd : s.getD p 0 = y := by simp [List.getD, hy]
    have hpi : (p : Int) < s.length := by omega
    have hsf : ∀ V, supF vars s U V f = if y = q then (-1, -1) else supV U V (numF vars (p, q)) := fun V => by
      unfold supF
      rw [if_pos hin, ← hp, ← hq, hyd, e2]
      by_cases h : y = q
      · simp [h]
      · rw [if_neg h, if_neg (by omega)]
    by_cases heq : y = q
    · simp (disch := omega) [cell_blk ox4, hs4.idx, nE_cell hs4 hy, heq]
      refine ⟨fun V _ => ?_, k1.trans k14⟩
      rw [hsf, if_pos heq]
      rfl
    have hne : ((y : Int) == (q : Int)) = false := by simp; omega
    simp (disch := omega) [cell_blk ox4, hs4.idx, nE_cell hs4 hy, hne]
    refine cl_of (values_spec sv (.map none) s (fun _ => true) hR4 hs4 .none hlen hst.rng hS.un hS.vl hS.sm hS.ul) ?_
    rintro u w5 ⟨V, hV, n5⟩
    rw [allow_all] at hV
    have k5 := n5.kp
    have hR5 := hR4.kp k5
    have hv5 := n5.own.vw
    have ox5 := k5.blk ox4 (by simp)
    have r5 := rd_fa (f := faN (p, q)) ox5
    simp only [faN] at r5
    simp [r5]
    refine cl_of (number_spec vars (p, q) hR5.obj hR5.first n2 (by have := numF_lt (f := (p, q)) n2 n3; omega)) ?_
    rintro _ w6 ⟨rfl, k6⟩
    have hnf := numF_lt (vars := vars) (f := (p, q)) n2 n3
    obtain ⟨n, hn⟩ : ∃ n, n = numF vars (p, q) := ⟨_, rfl⟩
    rw [← hn] at hnf ⊢
    have hR6 := hR5.kp k6
    have hv6 := hv5.kp0 k6
    have hx := tabN_at (g := V) hnf
    have hni : (n : Int) < (tabN vars.sum V).length := by rw [tabN_len]; omega
    have kk6 : Kp [] w w6 := (k1.trans k14).trans (k5.trans k6)
    have hInf : ((Inf : Nat) : Int) = 1125899906842624 := rfl
    have fin : ∀ r, r = supV U V n → ∀ V', IsVal U (stN vars s vars.length) V' → prV r = prV (supF vars s U V' f) := fun r hr V' hV' => by
      rw [hV'.uniq hV, hsf, if_neg heq, ← hn, hr]
    by_cases hge : Inf ≤ V n
    · have hge' : (1125899906842624 : Int) ≤ (V n : Int) := by omega
      simp (disch := omega) [hv6.idx, nE_cell hv6 hx, hge']
      exact ⟨fin (-1, -1) (by unfold supV; rw [if_pos hge]), kk6⟩
    have hge' : ¬ (1125899906842624 : Int) ≤ (V n : Int) := by omega
    have hrl : rs.length = U.length := by rw [← hR.eu]; simp
    have hUl := hS.ul
    simp (disch := omega) [hv6.idx, nE_cell hv6 hx, hge', cell_blk hR6.obj, hR6.un.len]
    refine range_loop (n := rs.length) (by omega) (fun k ρ w' => ρ 0 = .pointer (some ⟨b, 0, none⟩) ∧ ρ 8 = u ∧ ρ 9 = .int .i64 (n : Nat) ∧ ρ 62 = uv ∧ NoSup U V n k ∧ Kp [] w6 w') (by simp) (by simp)
      ⟨by simp, by simp, by simp, by simp, by unfold NoSup; simp, Kp.refl _ _⟩ (by decide) (fun _ _ _ _ h => by simpa using h) (fun _ _ _ _ h => by simpa using h) ?_ ?_
    rotate_left
    · rintro ρ w7 ⟨g0, g8, g9, g62, hno, k7⟩
      simp
      refine ⟨fin (-1, -1) ?_, kk6.trans k7⟩
      unfold supV
      rw [if_neg hge, find_no (p := isSup V n) (l := U)]
      unfold NoSup at hno
      rw [hrl, List.take_length] at hno
      exact hno
    rintro k ρ w7 hk hc hlm ⟨g0, g8, g9, g62, hno, k7⟩
    have hR7 := hR6.kp k7
    obtain ⟨r, hr⟩ : ∃ r, rs[k]? = some r := ⟨_, List.getElem?_eq_getElem (by omega)⟩
    have hrm := List.mem_of_getElem? hr
    have hru : U[k]? = some r.u := by rw [← hR.eu, List.getElem?_map, hr]; rfl
    have hum := List.mem_of_getElem? hru
    have ec := hR7.un.cells ruE_len hr
    simp only [ruE] at ec
    have hrk : (k : Int) < rs.length := by omega
    obtain ⟨eb, heb⟩ : ∃ eb, eb = w7.heap.size := ⟨_, rfl⟩
    have h7 : At w7 [] (Star (ObjA eb (.cells #[.int .i64 0, .int .i64 0, .int .i64 0, .int .i64 0, .slice none 0 0] 83 (0, 0))) Emp) (w7.alloc (.cells #[.int .i64 0, .int .i64 0, .int .i64 0, .int .i64 0, .slice none 0 0] 83 (0, 0))) := by rw [heb]; exact (At.start rfl).alloc _ .emp
    simp (disch := omega) [g62, hc, hlm, hR7.un.idx, ec, ← heb]
    refine h7.st .emp (by simp) (by simp [r.nv.2]) fun w8 h8 => ?_
    have o8 := h8.obj
    simp at o8
    rw [heb] at o8
    have k8 := h8.kp
    have huc := hS.un.cost _ hum
    have nosuc : isSup V n r.u = false → NoSup U V n (k + 1) := fun h => by
      unfold NoSup at hno ⊢
      exact all_take_succ hru hno h
    by_cases hmk : r.u.makes = n
    case neg =>
      have hmk' : ((r.u.makes : Int) != (n : Int)) = true := by simp; omega
      simp (disch := omega) [g9, cell_blk o8, hmk', g0, g8, g62, hc, hlm]
      exact ⟨nosuc (by simp [isSup, hmk]), k7.trans k8⟩
    have hmk' : ((r.u.makes : Int) != (n : Int)) = false := by simp; omega
    have hn8 := ((hR7.kp k8).needs r hrm)
    have hnl : r.u.needs.length ≤ 768 := by
      have := nodup_le r.u.needs vars.sum (hS.un.nod _ hum) (hS.un.rng _ hum)
      omega
    simp (disch := omega) [g9, cell_blk o8, hmk', hn8.len]
    refine range_loop (n := r.u.needs.length) (by omega) (fun j ρ w' => ρ 0 = .pointer (some ⟨b, 0, none⟩) ∧ ρ 8 = u ∧ ρ 9 = .int .i64 (n : Nat) ∧ ρ 62 = uv ∧ ρ 63 = .int .i64 (rs.length : Nat) ∧ ρ 64 = .int .i64 (k : Nat) ∧ ρ 11 = .pointer (some ⟨w7.heap.size, 0, none⟩) ∧ ρ 73 = r.nv.1 ∧ ρ 12 = .int .i64 (gr V (r.u.needs.take j) : Nat) ∧ w' = w8) (by simp) (by simp)
      ⟨by simp [g0], by simp [g8], by simp [g9], by simp [g62], by simp [hlm], by simp [hc], by simp [heb], by simp, by simp [gr], rfl⟩ (by decide) (fun _ _ _ _ h => by simpa using h) (fun _ _ _ _ h => by simpa using h) ?_ ?_
    · rintro j ρ w9 hj hcj hlj ⟨g0, g8, g9, g62, g63, g64, g11, g73, g12, rfl⟩
      obtain ⟨x, hxn⟩ : ∃ x, r.u.needs[j]? = some x := ⟨_, List.getElem?_eq_getElem hj⟩
      have hxr := hS.un.rng _ hum x (List.mem_of_getElem? hxn)
      have hv9 := hv6.kp0 (k7.trans k8)
      have hxi : (x : Int) < (tabN vars.sum V).length := by rw [tabN_len]; omega
      have hji : (j : Int) < r.u.needs.length := by omega
      have hxx := tabN_at (g := V) hxr
      have e12 : gr V (r.u.needs.take (j + 1)) = max (gr V (r.u.needs.take j)) (V x) := by rw [take_snoc hxn, gr_snoc]
      simp (disch := omega) [g0, g8, g9, g62, g63, g64, g11, g73, g12, hcj, hlj, hn8.idx, nE_cell hn8 hxn, hv9.idx, nE_cell hv9 hxx, e12]
      omega
    rintro ρ w9 ⟨g0, g8, g9, g62, g63, g64, g11, g73, g12, rfl⟩
    rw [List.take_length] at g12
    have hv9 := hv6.kp0 (k7.trans k8)
    have hgl : gr V r.u.needs ≤ Inf := gr_le_iff.2 fun x _ => hV.le x
    have hVl := hV.le n
    unfold Inf at hgl hVl
    simp (disch := omega) [g0, g8, g9, g62, g63, g64, g11, g12, cell_blk o8, hv9.idx, nE_cell hv9 hx, wrap_i64]
    by_cases hfd : gr V r.u.needs + r.u.cost = V n
    · have hfd' : ((gr V r.u.needs : Int) + (r.u.cost : Nat) == (V n : Int)) = true := by simp; omega
      simp (disch := omega) [hfd', g11, cell_blk o8]
      refine ⟨fin (_, _) ?_, ((kk6.trans k7).trans k8).drew.drew⟩
      unfold supV
      rw [if_neg hge, find_at (p := isSup V n) hru (by simp [isSup, hmk, hfd]) hno]
    · have hfd' : ((gr V r.u.needs : Int) + (r.u.cost : Nat) == (V n : Int)) = false := by simp; omega
      simp (disch := omega) [hfd', g0, g8, g9, g62, g63, g64]
      exact ⟨nosuc (by simp [isSup, hfd]), (k7.trans k8).drew⟩
end
end Go.Proofs.Ytjpbkljnllkneaa
