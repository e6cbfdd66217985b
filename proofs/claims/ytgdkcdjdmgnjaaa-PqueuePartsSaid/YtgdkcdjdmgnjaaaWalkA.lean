/-
  A part of the proofs of this seat's statements (WalkA); no conditions beyond those each theorem names.
-/
import Derived.Test.YtgdkcdjdmgnjaaaWalk9
set_option maxRecDepth 100000
set_option linter.unusedSimpArgs false
set_option linter.unusedVariables false
namespace Go.Proofs.Ytgdkcdjdmgnjaaa
open Go Go.W Go.Pq
theorem insS_app {e : En} {t : List En} : ∀ {s : List En}, (∀ x ∈ s, bef x e = true) → insS e (s ++ t) = s ++ insS e t
  | [], _ => rfl
  | x :: s, h => by
    simp only [List.cons_append]
    rw [insS, if_pos (h x (by simp)), insS_app (fun y hy => h y (by simp [hy]))]
theorem ins_app {l : List (Int × Int)} {o n0 bd : Int} {s : List En} (hs : ∀ x ∈ s, x.key < bd) : ∀ k, (∀ j, j < k → bd ≤ (gp l j).1) → ins l o n0 s k = s ++ ins l o n0 [] k
  | 0, _ => by simp [ins]
  | k + 1, h => by
    rw [ins, ins_app hs k (fun j hj => h j (by omega)), insS_app, ins]
    intro x hx
    have h1 := hs x hx
    have h2 := h k (by omega)
    rw [bef_iff]
    left
    show x.key < (gp l k).1
    omega
def ez (z : Int) : List Value := [.int .i64 z]
theorem ez_len (z : Int) : (ez z).length = 1 := rfl
theorem ez_one (z : Int) : (ez z).all oneC = true := rfl
theorem ez_map (s : List Int) : s.flatMap ez = s.map (.int .i64) := by induction s <;> simp_all [ez]

/-- A list that is popped off a queue: k entries lie in 'out' behind those of d0, the rest in the queue. -/
def PI (w w4 : World) (q : Nat) (nx : Int) (S d0 : List En) (k : Nat) (B : Asr) (out : Value) : Prop :=
  ∃ s d : List En, S = d ++ s ∧ d.length = k ∧ New w (Star (OwnA out 3 1 ez ((d0 ++ d).map En.item)) (Star (QS q s nx) B)) w4
theorem law_parts (sv hv : Value) (l h : List (Int × Int)) (bd : Int) (w : World) (hs : Vw w sv pe l) (hh : Vw w hv pe h) (hlm : l.length ≤ 4611686018427387904) (hhm : h.length ≤ 4611686018427387904) :
    Calls Try.prog 5 [sv, hv, .int .i64 bd].toArray w fun e w' => ∃ v, e = .returned v ∧ v = .bool true ∧ Kp [] w w' := by
  refine enter Try.func5 mixed low5 (Nat.le_of_ble_eq_true rfl) ?_
  simp only [L5]
  by_cases c1 : (200 : Int) < l.length
  · simp [hs.len, c1]
    refine cl_of (awake_spec w) ?_
    rintro v w1 ⟨rfl, k1⟩
    simp
    exact k1
  by_cases c2 : (200 : Int) < h.length
  · simp [hs.len, hh.len, c1, c2]
    refine cl_of (awake_spec w) ?_
    rintro v w1 ⟨rfl, k1⟩
    simp
    exact k1
  simp [hs.len, hh.len, c1, c2]
  refine cl_of (awake_spec w) ?_
  rintro v w1 ⟨rfl, k1⟩
  simp
  refine cl_of (st_new Lcl.emp (New.emp k1)) ?_
  rintro v w2 ⟨a, rfl, h2⟩
  simp
  refine cl_of (st_new (QS.loc.star Lcl.emp) h2) ?_
  rintro v w2 ⟨b, rfl, h2⟩
  replace h2 := h2.rot
  simp [hs.len]
  refine range_loop (n := l.length) (by omega) (fun k ρ w3 => ρ 0 = sv ∧ ρ 1 = hv ∧ ρ 2 = .int .i64 bd ∧ ρ 7 = .pointer (some ⟨a, 0, none⟩) ∧ ρ 8 = .pointer (some ⟨b, 0, none⟩) ∧ ρ 45 = sv ∧ (∀ j, j < k → (gp l j).1 < bd) ∧
      New w (Star (QS a (ins l 0 0 [] k) k) (Star (QS b (ins l 0 0 [] k) k) Emp)) w3) (by simp) (by simp) ⟨by simp, by simp, by simp, by simp, by simp, by simp, by simp, h2⟩ (by decide)
    (fun _ _ _ _ h => by simpa using h) (fun _ _ _ _ h => by simpa using h) ?_ ?_
  · rintro k ρ w3 hk hc hlim ⟨g0, g1, g2, g7, g8, g45, hlt, hq⟩
    have hs3 := hs.kp0 hq.kp
    simp (disch := omega) [hc, g45, hs3.idx, hs3.cells pe_len (gp_at hk), pe_len]
    refine st_obj alloc_new (by simp [pe]) (pe_one _) ?_
    intro w4 hk4 hs4 ho4
    simp [pe] at ho4
    have hk34 : Kp [] w3 w4 := (((Kp.refl [] w3).alloc _).trans' hk4 (by simp))
    have hq4 := hq.more (A := ObjA w3.heap.size _) (QS.loc.star (QS.loc.star Lcl.emp)) hk34 ⟨_, ⟨ho4, rfl⟩, by simp⟩
    have hln := ins_len l 0 0 [] k
    simp at hln
    simp [cell_blk ho4, g2]
    refine cd_split (fun hge => ?_) (fun hlt2 => ?_)
    · simp
      exact hq4.kp
    · have hlt2' : (gp l k).1 < bd := by simpa using hlt2
      simp [cell_blk ho4, g7, hc]
      refine cl_of (st_push (Lcl.obj.star (QS.loc.star Lcl.emp)) hq4.rot (by omega) (by omega) _ _ _) ?_
      rintro v w5 ⟨rfl, h5⟩
      replace h5 := h5.rot
      simp [cell_blk h5.obj, g8]
      refine cl_of (st_push (Lcl.obj.star (QS.loc.star Lcl.emp)) h5.rot3 (by omega) (by omega) _ _ _) ?_
      rintro v w6 ⟨rfl, h6⟩
      replace h6 := h6.rot
      have hi1 : ins l 0 0 [] (k + 1) = insS ⟨(gp l k).1, (gp l k).2, k, k⟩ (ins l 0 0 [] k) := by simp [ins]
      simp [hc, hlim, g0, g1, g2, g7, g8, g45]
      refine ⟨fun j hj => ?_, by rw [hi1]; exact h6.drop.rot⟩
      rcases Nat.lt_or_ge j k with h9 | h9
      · exact hlt j h9
      · have : j = k := by omega
        subst this; exact hlt2'
  rintro ρ w3 ⟨g0, g1, g2, g7, g8, g45, hlt, hq⟩
  obtain ⟨S, hS⟩ : ∃ S, S = ins l 0 0 [] l.length := ⟨_, rfl⟩
  have hsl : S.length = l.length := by rw [hS, ins_len]; simp
  have hSk : ∀ x ∈ S, x.key < bd := fun x hx => by
    obtain ⟨i, hi, rfl⟩ := (ins_mem0 l _ x).1 (hS ▸ hx)
    exact hlt i hi
  rw [← hS] at hq
  have hh3 := hh.kp0 hq.kp
  simp [g1, hh3.len]
  refine range_loop (n := h.length) (by omega) (fun k ρ w4 => ρ 0 = sv ∧ ρ 1 = hv ∧ ρ 2 = .int .i64 bd ∧ ρ 7 = .pointer (some ⟨a, 0, none⟩) ∧ ρ 8 = .pointer (some ⟨b, 0, none⟩) ∧ ρ 75 = hv ∧ (∀ j, j < k → bd ≤ (gp h j).1) ∧
      New w (Star (QS b (ins h 1000 l.length S k) (l.length + k)) (Star (QS a S l.length) Emp)) w4) (by simp) (by simp) ⟨by simp [g0], by simp [g1], by simp [g2], by simp [g7], by simp [g8], by simp [g1], by simp, by simpa [ins] using hq.rot⟩ (by decide)
    (fun _ _ _ _ h => by simpa using h) (fun _ _ _ _ h => by simpa using h) ?_ ?_
  · rintro k ρ w4 hk hc hlim ⟨g0, g1, g2, g7, g8, g75, hge, hq⟩
    have hs3 := hh.kp0 hq.kp
    simp (disch := omega) [hc, g75, hs3.idx, hs3.cells pe_len (gp_at hk), pe_len]
    refine st_obj alloc_new (by simp [pe]) (pe_one _) ?_
    intro w5 hk4 hs4 ho4
    simp [pe] at ho4
    have hk34 : Kp [] w4 w5 := (((Kp.refl [] w4).alloc _).trans' hk4 (by simp))
    have hq4 := hq.kp0 (QS.loc.star (QS.loc.star Lcl.emp)) hk34
    have hln := ins_len h 1000 l.length S k
    simp [cell_blk ho4, g2]
    refine cd_split (fun hge2 => ?_) (fun hge2 => ?_)
    · simp
      exact hq4.kp
    · have hge2' : bd ≤ (gp h k).1 := by simpa using hge2
      simp (disch := omega) [cell_blk ho4, g8, hc, wrap_i64]
      refine cl_of (st_push (QS.loc.star Lcl.emp) hq4 (by omega) (by omega) _ _ _) ?_
      rintro v w6 ⟨rfl, h6⟩
      simp [hc, hlim, g0, g1, g2, g7, g8, g75]
      refine ⟨fun j hj => ?_, by rw [ins]; simpa [Int.add_assoc] using h6⟩
      rcases Nat.lt_or_ge j k with h9 | h9
      · exact hge j h9
      · have : j = k := by omega
        subst this; exact hge2'
  rintro ρ w4 ⟨g0, g1, g2, g7, g8, g75, hge, hq⟩
  rw [ins_app hSk _ hge] at hq
  obtain ⟨T, hT⟩ : ∃ T, T = ins h 1000 l.length [] h.length := ⟨_, rfl⟩
  have htl : T.length = h.length := by rw [hT, ins_len]; simp
  rw [← hT] at hq
  have hs4 := hs.kp0 hq.kp
  simp [g0, hs4.len]
  refine range_loop (n := l.length) (by omega) (fun k ρ w5 => ρ 1 = hv ∧ ρ 7 = .pointer (some ⟨a, 0, none⟩) ∧ ρ 8 = .pointer (some ⟨b, 0, none⟩) ∧ PI w w5 a l.length S [] k (Star (QS b (S ++ T) (l.length + h.length)) Emp) (ρ 13)) (by simp) (by simp)
    ⟨by simp [g1], by simp [g7], by simp [g8], S, [], rfl, rfl, by simpa using New.nil (QS.loc.star (QS.loc.star Lcl.emp)) hq.rot⟩ (by decide)
    (fun _ _ _ _ h => by simpa using h) (fun _ _ _ _ h => by simpa using h) ?_ ?_
  · rintro k ρ w5 hk hc hlim ⟨g1, g7, g8, s, d, hsd, hdk, h5⟩
    cases s with
    | nil => rw [hsd] at hsl; simp at hsl; omega
    | cons x s =>
      have hlen : d.length + (s.length + 1) = l.length := by rw [← hsl, hsd]; simp
      simp [g7]
      refine cl_of (st_pop (Lcl.own.star (QS.loc.star Lcl.emp)) h5.rot (by omega)) ?_
      rintro v w6 ⟨rfl, h6⟩
      replace h6 := h6.rot
      simp
      have hk6 : Kp [] w6 (w6.alloc (.cells #[.int .i64 x.item] 3)) := (Kp.refl _ _).alloc _
      refine New.append (xs := [x.item]) (QS.loc.star (QS.loc.star Lcl.emp)) (h6.kp0 (Lcl.own.star (QS.loc.star (QS.loc.star Lcl.emp))) hk6) ez_len ez_one sl_46 rfl (fun j u hj => ?_) (by simp; omega) (by unfold maxLen; simp; omega) ?_
      · rw [addr_add, Nat.zero_add, cell_blk alloc_new]
        simpa [ez] using hj
      intro v' w7 h7
      simp [hc, hlim, g1, g7, g8]
      exact ⟨s, d ++ [x], by simp [hsd], by simp [hdk], by simpa using h7⟩
  rintro ρ w5 ⟨g1, g7, g8, s, d, hsd, hdk, h5⟩
  have hs0 : s = [] := by
    cases s with
    | nil => rfl
    | cons x s => rw [hsd] at hsl; simp at hsl; omega
  subst hs0
  have hd : S = d := by simpa using hsd
  rw [← hd] at h5
  clear hsd hdk
  have hh5 := hh.kp0 h5.kp
  obtain ⟨out, hout⟩ : ∃ out, out = ρ 13 := ⟨_, rfl⟩
  simp [g1, hh5.len]
  refine range_loop (n := h.length) (by omega) (fun k ρ w6 => ρ 1 = hv ∧ ρ 7 = .pointer (some ⟨a, 0, none⟩) ∧ ρ 8 = .pointer (some ⟨b, 0, none⟩) ∧ ρ 114 = hv ∧ ρ 13 = out ∧
      New w (Star (QS a (ins h 1000 l.length [] k) (l.length + k)) (Star (OwnA out 3 1 ez (S.map En.item)) (Star (QS b (S ++ T) (l.length + h.length)) Emp))) w6) (by simp) (by simp)
    ⟨by simp [g1], by simp [g7], by simp [g8], by simp [g1], by simp [hout], by simpa [ins, hout] using h5.rot⟩ (by decide)
    (fun _ _ _ _ h => by simpa using h) (fun _ _ _ _ h => by simpa using h) ?_ ?_
  · rintro k ρ w6 hk hc hlim ⟨g1, g7, g8, g114, g13, hq⟩
    have hs3 := hh.kp0 hq.kp
    simp (disch := omega) [hc, g114, hs3.idx, hs3.cells pe_len (gp_at hk), pe_len]
    refine st_obj alloc_new (by simp [pe]) (pe_one _) ?_
    intro w7 hk4 hs4 ho4
    simp [pe] at ho4
    have hk34 : Kp [] w6 w7 := (((Kp.refl [] w6).alloc _).trans' hk4 (by simp))
    have hL := (QS.loc (q := b) (s := S ++ T) (nx := l.length + h.length)).star Lcl.emp
    have hq4 := hq.kp0 (QS.loc.star (Lcl.own.star hL)) hk34
    have hln := ins_len h 1000 l.length [] k
    simp at hln
    simp (disch := omega) [cell_blk ho4, g7, hc, wrap_i64]
    refine cl_of (st_push (Lcl.own.star hL) hq4 (by omega) (by omega) _ _ _) ?_
    rintro v w8 ⟨rfl, h8⟩
    simp [hc, hlim, g1, g7, g8, g114, g13]
    rw [ins]; simpa [Int.add_assoc] using h8
  rintro ρ w6 ⟨g1, g7, g8, g114, g13, hq⟩
  rw [← hT] at hq
  have hh6 := hh.kp0 hq.kp
  simp [g1, hh6.len]
  refine range_loop (n := h.length) (by omega) (fun k ρ w7 => ρ 7 = .pointer (some ⟨a, 0, none⟩) ∧ ρ 8 = .pointer (some ⟨b, 0, none⟩) ∧ PI w w7 a (l.length + h.length) T S k (Star (QS b (S ++ T) (l.length + h.length)) Emp) (ρ 13)) (by simp) (by simp)
    ⟨by simp [g7], by simp [g8], T, [], rfl, rfl, by simpa [g13] using hq.rot⟩ (by decide)
    (fun _ _ _ _ h => by simpa using h) (fun _ _ _ _ h => by simpa using h) ?_ ?_
  · rintro k ρ w7 hk hc hlim ⟨g7, g8, s, d, hsd, hdk, h5⟩
    cases s with
    | nil => rw [hsd] at htl; simp at htl; omega
    | cons x s =>
      have hlen : d.length + (s.length + 1) = h.length := by rw [← htl, hsd]; simp
      simp [g7]
      refine cl_of (st_pop (Lcl.own.star (QS.loc.star Lcl.emp)) h5.rot (by omega)) ?_
      rintro v w8 ⟨rfl, h6⟩
      replace h6 := h6.rot
      simp
      have hk6 : Kp [] w8 (w8.alloc (.cells #[.int .i64 x.item] 3)) := (Kp.refl _ _).alloc _
      refine New.append (xs := [x.item]) (QS.loc.star (QS.loc.star Lcl.emp)) (h6.kp0 (Lcl.own.star (QS.loc.star (QS.loc.star Lcl.emp))) hk6) ez_len ez_one sl_46 rfl (fun j u hj => ?_) (by simp; omega) (by unfold maxLen; simp; omega) ?_
      · rw [addr_add, Nat.zero_add, cell_blk alloc_new]
        simpa [ez] using hj
      intro v' w9 h7
      simp [hc, hlim, g7, g8]
      exact ⟨s, d ++ [x], by simp [hsd], by simp [hdk], by simpa using h7⟩
  rintro ρ w7 ⟨g7, g8, s, d, hsd, hdk, h5⟩
  have hs0 : s = [] := by
    cases s with
    | nil => rfl
    | cons x s => rw [hsd] at htl; simp at htl; omega
  subst hs0
  have hd : T = d := by simpa using hsd
  rw [← hd] at h5
  clear hsd hdk hd
  obtain ⟨U, hU⟩ : ∃ U, U = S ++ T := ⟨_, rfl⟩
  rw [← hU] at h5
  have hul : U.length ≤ 400 := by rw [hU]; simp; omega
  obtain ⟨out, hout⟩ : ∃ out, out = ρ 13 := ⟨_, rfl⟩
  rw [← hout] at h5
  have hol := h5.own
  simp [← hout, hol.len]
  refine range_loop (n := U.length) (by omega) (fun k ρ w8 => ρ 7 = .pointer (some ⟨a, 0, none⟩) ∧ ρ 8 = .pointer (some ⟨b, 0, none⟩) ∧ ρ 149 = out ∧
      New w (Star (OwnA out 3 1 ez (U.map En.item)) (Star (QS a [] (l.length + h.length)) (Star (QS b (U.drop k) (l.length + h.length)) Emp))) w8) (by simp) (by simp)
    ⟨by simp [g7], by simp [g8], by simp [hout], by simpa using h5⟩ (by decide)
    (fun _ _ _ _ h => by simpa using h) (fun _ _ _ _ h => by simpa using h) ?_ ?_
  · rintro k ρ w8 hk hc hlim ⟨g7, g8, g149, h8⟩
    have hdr : U.drop k = U[k] :: U.drop (k + 1) := List.drop_eq_getElem_cons hk
    rw [hdr] at h8
    have hcel : w8.cell? ⟨out.blk, k, none⟩ = some (.int .i64 U[k].item) := by
      have := h8.own.cell ez_len (k := k) (x := U[k].item) (by simp [hk]) (o := 0) (by omega)
      simpa [ez] using this
    have hkm : (k : Int) < (U.map En.item).length := by simp; omega
    simp (disch := omega) [hc, g149, h8.own.idx, hcel, g8]
    refine cl_of (st_pop (Lcl.own.star (QS.loc.star Lcl.emp)) h8.rot3 (by simp; omega)) ?_
    rintro v w9 ⟨rfl, h9⟩
    simp [hc, hlim, g7, g8, g149]
    exact h9.rot3.rot3
  rintro ρ w8 ⟨g7, g8, g149, h8⟩
  rw [List.drop_length] at h8
  simp [g7]
  refine cl_of (st_len (Lcl.own.star (QS.loc.star Lcl.emp)) h8.rot) ?_
  rintro v w9 ⟨rfl, h9⟩
  simp [g8]
  refine cl_of (st_len (QS.loc.star (Lcl.own.star Lcl.emp)) h9.rot3) ?_
  rintro v w10 ⟨rfl, h10⟩
  simp
  exact h10.kp
end Go.Proofs.Ytgdkcdjdmgnjaaa
