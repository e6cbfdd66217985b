/-
  A part of the proof of this claim's statement (LmWB, LmWC, LmAw, LmWD): plain theorems; no conditions beyond those each names.
-/
import Derived.Test.YtcplpogmbacnfaaPk18
import Derived.Test.YtcplpogmbacnfaaPk13
import Derived.Test.YtcplpogmbacnfaaPk14
section
set_option maxRecDepth 100000
set_option linter.unusedSimpArgs false
set_option linter.unusedVariables false
namespace Go.Proofs.Ytcplpogmbacnfaa
open Go Go.W Go.Tk Go.Rx Go.Lm Go.Maps
def luW (r : Lu) : Cell1 × List Nat := (r.nv, r.u.needs)
/-- A heuristic that is being made. -/
def HrA (b : Nat) (vv fv gv cv lv : Value) (n : Nat) (vars fs gl cl : List Nat) (rs : List Lu) : Asr :=
  Star (ObjA b (hrO vv fv n gv cv lv)) (Star (OwnA fv 3 1 nE fs) (Star (OwnA cv 3 1 nE cl) (Star (OwnA lv 77 3 luE rs) (Star (VwsA nE (rs.map luW)) (Star (VwA gv nE gl) (Star (VwA vv nE vars) Emp))))))
theorem HrA.lcl {b : Nat} {vv fv gv cv lv : Value} {n : Nat} {vars fs gl cl : List Nat} {rs : List Lu} : Lcl (HrA b vv fv gv cv lv n vars fs gl cl rs) := Lcl.obj.star (Lcl.own.star (Lcl.own.star (Lcl.own.star (Lcl.vws.star (Lcl.vw.star (Lcl.vw.star .emp))))))
theorem HrA.rd {w w1 : World} {b : Nat} {vv fv gv cv lv : Value} {vars gl cl : List Nat} {rs : List Lu} {UL : List Un} (h : At w [] (HrA b vv fv gv cv lv vars.sum vars (firsts vars vars.length) gl cl rs) w1) (e : rs.map (·.u) = UL) : HrR b vars gl cl UL vv fv gv cv lv rs w1 := by
  unfold HrA at h
  exact ⟨h.obj, h.drop.drop.drop.drop.drop.drop.vw, h.drop.own.vw, h.drop.drop.drop.drop.drop.vw, h.drop.drop.own.vw, h.drop.drop.drop.own.vw, fun r hr => h.drop.drop.drop.drop.vws (p := luW r) (List.mem_map.2 ⟨r, hr, rfl⟩), e⟩
/-- A heuristic of a task. -/
def Hrx (b : Nat) (T : Nt) (w : World) : Prop := ∃ UL vv fv gv cv lv rs, Lk UL (uns T (cst T [])) ∧ HrR b T.vars (T.goal.map (numF T.vars)) (T.ops.map (·.cost)) UL vv fv gv cv lv rs w
theorem Hrx.kp {b : Nat} {T : Nt} {w w' : World} (h : Hrx b T w) (k : Kp [] w w') : Hrx b T w' := by
  obtain ⟨UL, vv, fv, gv, cv, lv, rs, h1, h2⟩ := h
  exact ⟨UL, vv, fv, gv, cv, lv, rs, h1, h2.kp k⟩
/-- What New returns, for any task. -/
def HnA (t : Tk) (x : Value) (w' : World) : Prop := match chkC t with
  | some c => x = .tuple #[.pointer none, errV c]
  | none => ∃ b T, T.raw = t ∧ NtG T ∧ x = .tuple #[.pointer (some ⟨b, 0, none⟩), .nilIface] ∧ Hrx b T w'
set_option maxHeartbeats 4000000 in
theorem lnew_walk {w : World} (t : Tk) (ht : TkR w t) (hl : TkL t) :
    Calls Try.prog 12 [tkV t].toArray w fun e w' => ∃ x, e = .returned x ∧ HnA t x w' ∧ Kp [] w w' := by
  refine enter Try.func12 mixed low12 (Nat.le_of_ble_eq_true rfl) ?_
  simp only [L12]
  obtain ⟨tb, htb⟩ : ∃ tb, tb = w.heap.size := ⟨_, rfl⟩
  obtain ⟨w1, hw1⟩ : ∃ w1, w1 = w.alloc (tkO t) := ⟨_, rfl⟩
  have k1 : Kp [] w w1 := by rw [hw1]; exact (Kp.refl [] w).alloc _
  have hw1' : w.alloc (.cells #[t.vv.1, t.nv.1, t.gv.1, t.ov.1] 26 (0, 0)) = w1 := by rw [hw1]; rfl
  have ob1 : w1.heap[tb]? = some (tkO t) := by rw [htb, hw1]; exact alloc_new
  simp [tkV, ← htb, hw1', rd_tk ob1]
  refine cl_of (tcheck_spec t (ht.kp k1) hl) ?_
  rintro _ w2 ⟨rfl, k2⟩
  unfold HnA
  cases hk : chkC t with
  | some c =>
    simp [chkV, errV]
    exact k1.trans k2
  | none =>
    obtain ⟨T, rfl, hg⟩ := good_nat ((chk_good t).1 hk)
    have hr := NtR.raw.1 ht
    have hvl := hg.vlen
    have hol := hg.olen
    have hsum : T.vars.sum ≤ 4096 := by
      have := sum_le (N := 64) fun n hn => (hg.vars n hn).2
      omega
    have oc2 := k2.blk ob1 (by simp)
    unfold tkO at oc2
    have hr2 := hr.kp (k1.trans k2)
    simp [chkV, cell_blk oc2, raw_vv]
    refine cl_of (cloneI_spec T.vv.1 T.vars hr2.vars (by omega)) ?_
    rintro vv w3 n3
    have h3 : At w2 [] (Star (OwnA vv 3 1 nE T.vars) Emp) w3 := At.nw .emp (At.start rfl) n3
    have o3 := n3.own.o1
    have c3 := n3.own.c1
    obtain ⟨b, hb⟩ : ∃ b, b = w3.heap.size := ⟨_, rfl⟩
    have h4 := (h3.by Imp.ow).alloc (hrO vv (.slice none 0 0) 0 (.slice none 0 0) (.slice none 0 0) (.slice none 0 0)) (Lcl.vw.star .emp)
    rw [← hb] at h4
    have hL4 : Lcl (Star (ObjA b (hrO vv (.slice none 0 0) 0 (.slice none 0 0) (.slice none 0 0) (.slice none 0 0))) (Star (VwA vv nE T.vars) Emp)) := Lcl.obj.star (Lcl.vw.star .emp)
    have oc3 := h3.kp.blk oc2 (by simp)
    obtain ⟨w4, hw4⟩ : ∃ w4, w4 = w3.alloc (.cells #[vv, .slice none 0 0, .int .i64 0, .slice none 0 0, .slice none 0 0, .slice none 0 0] 73 (0, 0)) := ⟨_, rfl⟩
    have h4 : At w2 [] (Star (ObjA b (hrO vv (.slice none 0 0) 0 (.slice none 0 0) (.slice none 0 0) (.slice none 0 0))) (Star (VwA vv nE T.vars) Emp)) w4 := by rw [hw4]; exact h4
    have oc4 := h4.kp.blk oc2 (by simp)
    simp [c3, ← hw4, ← hb, cell_blk oc4, raw_vv, (hr2.kp h4.kp).vars.len]
    have a1 := (At.nil (E := 3) (sz := 1) (enc := nE) hL4 h4).by Imp.ow
    have hL5 := (Lcl.vw (v := .slice none 0 0) (enc := nE) (l := ([] : List Nat))).star hL4
    have a2 := VwsA.nil (enc := nE) hL5 a1
    have hL6 := (Lcl.vws (enc := nE) (ps := [])).star hL5
    have a3 := At.nil (E := 77) (sz := 3) (enc := luE) hL6 a2
    have hL7 := (Lcl.own (v := .slice none 0 0) (E := 77) (sz := 3) (enc := luE) (l := [])).star hL6
    have a4 := At.nil (E := 3) (sz := 1) (enc := nE) hL7 a3
    have hL8 := (Lcl.own (v := .slice none 0 0) (E := 3) (sz := 1) (enc := nE) (l := [])).star hL7
    have a5 := At.nil (E := 3) (sz := 1) (enc := nE) hL8 a4
    have a6 : At w2 [] (HrA b vv (.slice none 0 0) (.slice none 0 0) (.slice none 0 0) (.slice none 0 0) (psum T.vars 0) T.vars (firsts T.vars 0) [] [] []) w4 := by
      rw [psum_zero]
      unfold HrA
      exact a5.by Imp.fr6
    clear a1 a2 a3 a4 a5 hL4 hL5 hL6 hL7 hL8
    refine range_loop (n := T.vars.length) (by omega) (fun k ρ w' => ρ 1 = .pointer (some ⟨tb, 0, none⟩) ∧ ρ 5 = .pointer (some ⟨b, 0, none⟩) ∧ ρ 24 = T.vv.1 ∧ ∃ fv, At w2 [] (HrA b vv fv (.slice none 0 0) (.slice none 0 0) (.slice none 0 0) (psum T.vars k) T.vars (firsts T.vars k) [] [] []) w') (by simp) (by simp)
      ⟨by simp, by simp, by simp, _, a6⟩ (by decide) (fun _ _ _ _ h => by simpa using h) (fun _ _ _ _ h => by simpa using h) ?_ ?_
    · rintro k ρ w5 hk hck hlk ⟨g1, g5, g24, fv, h5⟩
      obtain ⟨x, hx⟩ : ∃ x, T.vars[k]? = some x := ⟨_, List.getElem?_eq_getElem hk⟩
      have hr5 := (hr2.kp h5.kp).vars
      have hps := psum_le (vars := T.vars) k
      have hps2 := psum_le (vars := T.vars) (k + 1)
      have hsx := psum_succ hx
      have hfl : (firsts T.vars k).length = k := by simp [firsts]
      unfold HrA at h5
      have ho5 := h5.obj
      unfold hrO at ho5
      have hLB : Lcl (Star (ObjA b (hrO vv fv (psum T.vars k) (.slice none 0 0) (.slice none 0 0) (.slice none 0 0))) (Star (OwnA (.slice none 0 0) 3 1 nE []) (Star (OwnA (.slice none 0 0) 77 3 luE []) (Star (VwsA nE ([].map luW)) (Star (VwA (.slice none 0 0) nE []) (Star (VwA vv nE T.vars) Emp)))))) := Lcl.obj.star (Lcl.own.star (Lcl.own.star (Lcl.vws.star (Lcl.vw.star (Lcl.vw.star .emp)))))
      have h6 := ((h5.by Imp.sw).drew (Lcl.own.star hLB)).kp0 (Lcl.own.star hLB) ((Kp.refl [] _).alloc (.cells #[.int .i64 (psum T.vars k : Nat)] 3))
      have hki : (k : Int) < T.vars.length := by omega
      simp (disch := omega) [g24, hck, hlk, hr5.idx, nE_cell hr5 hx, g5, cell_blk ho5, rowOf]
      refine At.append (xs := [psum T.vars k]) hLB h6 nE_len nE_one sl_22 rfl (fun j u hj => ?_) (by omega) (by unfold maxLen; omega) fun v' w7 h7 => ?_
      · rw [show w5.heap.size = w5.drew.heap.size from rfl, add_none, cell_blk alloc_new]
        simpa [nE] using hj
      rw [← firsts_succ] at h7
      have c7 := h7.own.c1
      have o7 := h7.own.o1
      have h8 := h7.by Imp.sw
      have hLC : Lcl (Star (OwnA v' 3 1 nE (firsts T.vars (k + 1))) (Star (OwnA (.slice none 0 0) 3 1 nE []) (Star (OwnA (.slice none 0 0) 77 3 luE []) (Star (VwsA nE ([].map luW)) (Star (VwA (.slice none 0 0) nE []) (Star (VwA vv nE T.vars) Emp)))))) := Lcl.own.star (Lcl.own.star (Lcl.own.star (Lcl.vws.star (Lcl.vw.star (Lcl.vw.star .emp)))))
      unfold hrO at h8
      simp [g5, c7]
      refine h8.st hLC (by simp) (by simp [o7]) fun w9 h9 => ?_
      have hb9 := h9.obj
      have esx : ((psum T.vars k : Nat) : Int) + (x : Nat) = ((psum T.vars (k + 1) : Nat) : Int) := by rw [hsx]; simp
      simp (disch := omega) [g5, cell_blk hb9, esx, wrap_i64]
      refine h9.st hLC (by simp) (by simp) fun w10 h10 => ?_
      simp [g1, g5, g24, hck, hlk]
      refine ⟨v', ?_⟩
      unfold HrA hrO
      simpa using h10
    rintro ρ w5 ⟨g1, g5, _, fv, h5⟩
    rw [psum_all] at h5
    -- the goal
    refine seq_cut (fun ρ w' => ρ 1 = .pointer (some ⟨tb, 0, none⟩) ∧ ρ 5 = .pointer (some ⟨b, 0, none⟩) ∧ ∃ gv, At w2 [] (HrA b vv fv gv (.slice none 0 0) (.slice none 0 0) T.vars.sum T.vars (firsts T.vars T.vars.length) (T.goal.map (numF T.vars)) [] []) w') ?_ ?_
    · have oc5 := h5.kp.blk oc2 (by simp)
      unfold HrA at h5
      have ho5 := h5.obj
      simp [g1, g5, cell_blk oc5, raw_gv]
      refine cl_of (numbers_walk T.gv.1 T.vars T.goal ho5 h5.drop.own.vw (hr2.kp h5.kp).goal hg.goal.rng hsum (by have := hg.goal.len; omega)) ?_
      rintro gv w6 n6
      have hLH : Lcl (Star (ObjA b (hrO vv fv T.vars.sum (.slice none 0 0) (.slice none 0 0) (.slice none 0 0))) (Star (OwnA fv 3 1 nE (firsts T.vars T.vars.length)) (Star (OwnA (.slice none 0 0) 3 1 nE []) (Star (OwnA (.slice none 0 0) 77 3 luE []) (Star (VwsA nE ([].map luW)) (Star (VwA (.slice none 0 0) nE []) (Star (VwA vv nE T.vars) Emp))))))) := HrA.lcl
      have h6 := At.nw hLH h5 n6
      have o6 := n6.own.o1
      have c6 := n6.own.c1
      have h7 := (h6.by Imp.ow).by Imp.sw
      unfold hrO at h7
      have hLI : Lcl (Star (VwA gv nE (T.goal.map (numF T.vars))) (Star (OwnA fv 3 1 nE (firsts T.vars T.vars.length)) (Star (OwnA (.slice none 0 0) 3 1 nE []) (Star (OwnA (.slice none 0 0) 77 3 luE []) (Star (VwsA nE ([].map luW)) (Star (VwA (.slice none 0 0) nE []) (Star (VwA vv nE T.vars) Emp))))))) := Lcl.vw.star (Lcl.own.star (Lcl.own.star (Lcl.own.star (Lcl.vws.star (Lcl.vw.star (Lcl.vw.star .emp))))))
      simp [g5, c6]
      refine h7.st hLI (by simp) (by simp [o6]) fun w8 h8 => ?_
      simp [g1, g5]
      refine ⟨gv, ?_⟩
      unfold HrA hrO
      have h9 := h8.by (Imp.un (Imp.sw.trans (Imp.un (Imp.sw.trans (Imp.un (Imp.sw.trans (Imp.un (Imp.sw.trans (Imp.un (Imp.un Imp.dr))))))))))
      simpa using h9
    clear g1 g5 h5
    rintro ρ w5 ⟨g1, g5, gv, h5⟩
    have hlast : ∀ {ρ : Env} {w' : World}, (∃ cv lv rs, Lk (rs.map (·.u)) (uns T (cst T [])) ∧ At w2 [] (HrA b vv fv gv cv lv T.vars.sum T.vars (firsts T.vars T.vars.length) (T.goal.map (numF T.vars)) (T.ops.map (·.cost)) rs) w') → Hrx b T w' := by
      rintro ρ w' ⟨cv, lv, rs, h1, h2⟩
      exact ⟨_, vv, fv, gv, cv, lv, rs, h1, HrA.rd h2 rfl⟩
    have oc5 := h5.kp.blk oc2 (by simp)
    simp [g1, cell_blk oc5, raw_ov, (hr2.kp h5.kp).ops.len]
    refine range_loop (n := T.ops.length) (by omega) (fun k ρ w' => ρ 1 = .pointer (some ⟨tb, 0, none⟩) ∧ ρ 5 = .pointer (some ⟨b, 0, none⟩) ∧ ρ 60 = T.ov.1 ∧ ∃ cv lv rs, Lk (rs.map (·.u)) (unsK T (cst T []) k) ∧ At w2 [] (HrA b vv fv gv cv lv T.vars.sum T.vars (firsts T.vars T.vars.length) (T.goal.map (numF T.vars)) ((T.ops.take k).map (·.cost)) rs) w') (by simp) (by simp)
      ⟨by simp [g1], by simp [g5], by simp, .slice none 0 0, .slice none 0 0, [], by simp [unsK]; exact Lk.nil, by simpa using h5⟩ (by decide) (fun _ _ _ _ h => by simpa using h) (fun _ _ _ _ h => by simpa using h) ?_ ?_
    rotate_left
    · clear g1 g5 h5 oc5
      rintro ρ w6 ⟨g1, g5, _, cv, lv, rs, h6, h7⟩
      rw [List.take_length] at h7
      simp [g5]
      exact ⟨⟨b, T, rfl, hg, rfl, hlast (ρ := ρ) ⟨cv, lv, rs, h6, h7⟩⟩, (k1.trans k2).trans0 h7.kp⟩
    clear g1 g5 h5 oc5
    rintro k ρ w5 hk hck hlk ⟨g1, g5, g60, cv, lv, rs, hLk, h5⟩
    obtain ⟨o, ho⟩ : ∃ o, T.ops[k]? = some o := ⟨_, List.getElem?_eq_getElem hk⟩
    have hom := List.mem_of_getElem? ho
    have hgo := hg.ops o hom
    have hr5 := hr2.kp h5.kp
    have ec := hr5.ops.cells noE_len ho
    simp only [noE] at ec
    obtain ⟨ob, heb⟩ : ∃ ob, ob = w5.heap.size := ⟨_, rfl⟩
    have hki : (k : Int) < T.ops.length := by omega
    -- its variable
    refine seq_cut (fun ρ w' => ρ 1 = .pointer (some ⟨tb, 0, none⟩) ∧ ρ 5 = .pointer (some ⟨b, 0, none⟩) ∧ ρ 60 = T.ov.1 ∧ ρ 61 = .int .i64 (T.ops.length : Nat) ∧ ρ 62 = .int .i64 (k : Nat) ∧ ρ 8 = .int .i64 (k : Nat) ∧ ρ 9 = .pointer (some ⟨ob, 0, none⟩) ∧ At w2 [] (Star (ObjA ob (oqO o.raw)) (HrA b vv fv gv cv lv T.vars.sum T.vars (firsts T.vars T.vars.length) (T.goal.map (numF T.vars)) ((T.ops.take k).map (·.cost)) rs)) w') ?_ ?_
    · simp (disch := omega) [g60, hck, hlk, hr5.ops.idx, ec, ← heb]
      refine st_oq (o := o.raw) HrA.lcl h5 heb fun w6 h6 => ?_
      simp [g1, g5, g60, hck, hlk, ← heb]
      simpa using h6
    clear g1 g5 g60 hck hlk h5 hr5 ec heb
    rintro ρ w5 ⟨g1, g5, g60, g61, g62, g8, g9, h5⟩
    -- its cost
    refine seq_cut (fun ρ w' => ρ 1 = .pointer (some ⟨tb, 0, none⟩) ∧ ρ 5 = .pointer (some ⟨b, 0, none⟩) ∧ ρ 60 = T.ov.1 ∧ ρ 61 = .int .i64 (T.ops.length : Nat) ∧ ρ 62 = .int .i64 (k : Nat) ∧ ρ 8 = .int .i64 (k : Nat) ∧ ρ 9 = .pointer (some ⟨ob, 0, none⟩) ∧ ∃ cv, At w2 [] (Star (ObjA ob (oqO o.raw)) (HrA b vv fv gv cv lv T.vars.sum T.vars (firsts T.vars T.vars.length) (T.goal.map (numF T.vars)) ((T.ops.take (k + 1)).map (·.cost)) rs)) w') ?_ ?_
    · have oo5 := h5.obj
      unfold oqO No.raw at oo5
      unfold HrA at h5
      have hb5 := h5.drop.obj
      unfold hrO at hb5
      have e1 : (T.ops.take (k + 1)).map (·.cost) = (T.ops.take k).map (·.cost) ++ [o.cost] := by rw [take_snoc ho, List.map_append]; rfl
      have htl : ((T.ops.take k).map (·.cost)).length ≤ T.ops.length := by rw [List.length_map, List.length_take]; omega
      have h6 := h5.by Imp.fr4
      have hLB : Lcl (Star (ObjA ob (oqO o.raw)) (Star (ObjA b (hrO vv fv T.vars.sum gv cv lv)) (Star (OwnA fv 3 1 nE (firsts T.vars T.vars.length)) (Star (OwnA lv 77 3 luE rs) (Star (VwsA nE (rs.map luW)) (Star (VwA gv nE (T.goal.map (numF T.vars))) (Star (VwA vv nE T.vars) Emp))))))) := Lcl.obj.star (Lcl.obj.star (Lcl.own.star (Lcl.own.star (Lcl.vws.star (Lcl.vw.star (Lcl.vw.star .emp))))))
      have h6d := h6.drew (Lcl.own.star hLB)
      simp [g5, g9, cell_blk hb5, cell_blk oo5, rowOf]
      refine nat_append hLB h6d (by omega) fun v' w7 h7 => ?_
      rw [← e1] at h7
      have c7 := h7.own.c1
      have o7 := h7.own.o1
      have h8 := h7.by Imp.fr3
      unfold hrO at h8
      have hLC : Lcl (Star (OwnA v' 3 1 nE ((T.ops.take (k + 1)).map (·.cost))) (Star (ObjA ob (oqO o.raw)) (Star (OwnA fv 3 1 nE (firsts T.vars T.vars.length)) (Star (OwnA lv 77 3 luE rs) (Star (VwsA nE (rs.map luW)) (Star (VwA gv nE (T.goal.map (numF T.vars))) (Star (VwA vv nE T.vars) Emp))))))) := Lcl.own.star (Lcl.obj.star (Lcl.own.star (Lcl.own.star (Lcl.vws.star (Lcl.vw.star (Lcl.vw.star .emp))))))
      simp [g5, c7]
      refine h8.st hLC (by simp) (by simp [o7]) fun w9 h9 => ?_
      simp [g1, g5, g60, g61, g62, g8, g9]
      refine ⟨v', ?_⟩
      unfold HrA hrO
      have h10 : At w2 [] (Star (ObjA ob (oqO o.raw)) (Star (ObjA b (.cells #[vv, fv, .int .i64 (T.vars.sum : Nat), gv, v', lv] 73 (0, 0))) (Star (OwnA fv 3 1 nE (firsts T.vars T.vars.length)) (Star (OwnA v' 3 1 nE ((T.ops.take (k + 1)).map (·.cost))) (Star (OwnA lv 77 3 luE rs) (Star (VwsA nE (rs.map luW)) (Star (VwA gv nE (T.goal.map (numF T.vars))) (Star (VwA vv nE T.vars) Emp)))))))) w9 :=
        (by simpa using h9 : At w2 [] (Star (ObjA b (.cells #[vv, fv, .int .i64 (T.vars.sum : Nat), gv, v', lv] 73 (0, 0))) (Star (OwnA v' 3 1 nE ((T.ops.take (k + 1)).map (·.cost))) (Star (ObjA ob (oqO o.raw)) (Star (OwnA fv 3 1 nE (firsts T.vars T.vars.length)) (Star (OwnA lv 77 3 luE rs) (Star (VwsA nE (rs.map luW)) (Star (VwA gv nE (T.goal.map (numF T.vars))) (Star (VwA vv nE T.vars) Emp)))))))) w9).by (Imp.fr3.trans (Imp.un (Imp.un Imp.sw)))
      simpa using h10
    clear g1 g5 g60 g61 g62 g8 g9 h5 cv
    rintro ρ w5 ⟨g1, g5, g60, g61, g62, g8, g9, cv, h5⟩
    have oo5 := h5.obj
    unfold oqO No.raw at oo5
    have hoR := (hr2.kp h5.kp).op o hom
    have hel := hgo.elen
    have hUk : unsK T (cst T []) (k + 1) = unsK T (cst T []) k ++ opU T.vars o k (cst T [] k) o.effs.length := unsK_succ ho
    have hUl : (unsK T (cst T []) k).length ≤ 64 * 4096 := by
      have := unsK_len (cost := cst T []) (fun o ho => (hg.ops o ho).elen) k
      omega
    simp [g9, cell_blk oo5, hoR.effs.len]
    refine range_loop (n := o.effs.length) (by omega) (fun j ρ w' => ρ 1 = .pointer (some ⟨tb, 0, none⟩) ∧ ρ 5 = .pointer (some ⟨b, 0, none⟩) ∧ ρ 60 = T.ov.1 ∧ ρ 61 = .int .i64 (T.ops.length : Nat) ∧ ρ 62 = .int .i64 (k : Nat) ∧ ρ 8 = .int .i64 (k : Nat) ∧ ρ 9 = .pointer (some ⟨ob, 0, none⟩) ∧ ρ 79 = o.ev.1 ∧ ∃ lv rs, Lk (rs.map (·.u)) (unsK T (cst T []) k ++ opU T.vars o k (cst T [] k) j) ∧ At w2 [] (Star (ObjA ob (oqO o.raw)) (HrA b vv fv gv cv lv T.vars.sum T.vars (firsts T.vars T.vars.length) (T.goal.map (numF T.vars)) ((T.ops.take (k + 1)).map (·.cost)) rs)) w') (by simp) (by simp)
      ⟨by simp [g1], by simp [g5], by simp [g60], by simp [g61], by simp [g62], by simp [g8], by simp [g9], by simp, lv, rs, by simpa [opU] using hLk, h5⟩ (by decide) (fun _ _ _ _ h => by simpa using h) (fun _ _ _ _ h => by simpa using h) ?_ ?_
    rotate_left
    · clear g1 g5 g60 g61 g62 g8 g9 h5 oo5 hoR
      rintro ρ w6 ⟨g1, g5, g60, g61, g62, g8, g9, g79, lv, rs, hLk, h6⟩
      simp [g1, g5, g60, g61, g62, g8, g9, g79]
      rw [hUk]
      exact ⟨cv, lv, rs, by simpa using hLk, by simpa using h6.drop⟩
    clear g1 g5 g60 g61 g62 g8 g9 h5 oo5 hoR hLk lv rs
    rintro j ρ w5 hj hcj hlj ⟨g1, g5, g60, g61, g62, g8, g9, g79, lv, rs, hLk, h5⟩
    obtain ⟨e, hej⟩ : ∃ e, o.effs[j]? = some e := ⟨_, List.getElem?_eq_getElem hj⟩
    have hem := List.mem_of_getElem? hej
    have hoR5 := (hr2.kp h5.kp).op o hom
    have ece := hoR5.effs.cells nfE_len hej
    simp only [nfE] at ece
    obtain ⟨eb, hfb⟩ : ∃ eb, eb = w5.heap.size := ⟨_, rfl⟩
    have hji : (j : Int) < o.effs.length := by omega
    have hLO : Lcl (Star (ObjA ob (oqO o.raw)) (HrA b vv fv gv cv lv T.vars.sum T.vars (firsts T.vars T.vars.length) (T.goal.map (numF T.vars)) ((T.ops.take (k + 1)).map (·.cost)) rs)) := Lcl.obj.star HrA.lcl
    refine seq_cut (fun ρ w' => ρ 1 = .pointer (some ⟨tb, 0, none⟩) ∧ ρ 5 = .pointer (some ⟨b, 0, none⟩) ∧ ρ 60 = T.ov.1 ∧ ρ 61 = .int .i64 (T.ops.length : Nat) ∧ ρ 62 = .int .i64 (k : Nat) ∧ ρ 8 = .int .i64 (k : Nat) ∧ ρ 9 = .pointer (some ⟨ob, 0, none⟩) ∧ ρ 79 = o.ev.1 ∧ ρ 80 = .int .i64 (o.effs.length : Nat) ∧ ρ 81 = .int .i64 (j : Nat) ∧ ρ 11 = .pointer (some ⟨eb, 0, none⟩) ∧ At w2 [] (Star (ObjA eb (efO e.raw)) (Star (ObjA ob (oqO o.raw)) (HrA b vv fv gv cv lv T.vars.sum T.vars (firsts T.vars T.vars.length) (T.goal.map (numF T.vars)) ((T.ops.take (k + 1)).map (·.cost)) rs))) w') ?_ ?_
    · simp (disch := omega) [g79, hcj, hlj, hoR5.effs.idx, ece, ← hfb]
      refine st_ef (e := e.raw) hLO h5 hfb fun w6 h6 => ?_
      simp [g1, g5, g60, g61, g62, g8, g9, g79, hcj, hlj, ← hfb]
      simpa using h6
    clear g1 g5 g60 g61 g62 g8 g9 g79 hcj hlj h5 hoR5 ece hfb
    rintro ρ w5 ⟨g1, g5, g60, g61, g62, g8, g9, g79, g80, g81, g11, h5⟩
    have hLE : Lcl (Star (ObjA eb (efO e.raw)) (Star (ObjA ob (oqO o.raw)) (HrA b vv fv gv cv lv T.vars.sum T.vars (firsts T.vars T.vars.length) (T.goal.map (numF T.vars)) ((T.ops.take (k + 1)).map (·.cost)) rs))) := Lcl.obj.star hLO
    have hnp : FcRng T.vars o.pre := hgo.pre.rng
    have hnc : FcRng T.vars e.cnd := (hgo.cnd e hem).rng
    have hpl := hgo.pre.len
    have hcl := (hgo.cnd e hem).len
    obtain ⟨l0, hl0⟩ : ∃ l0, l0 = (o.pre ++ e.cnd).map (numF T.vars) := ⟨_, rfl⟩
    have hl0l : l0.length ≤ 128 := by rw [hl0]; simp; omega
    -- its needs
    refine seq_cut (fun ρ w' => ρ 1 = .pointer (some ⟨tb, 0, none⟩) ∧ ρ 5 = .pointer (some ⟨b, 0, none⟩) ∧ ρ 60 = T.ov.1 ∧ ρ 61 = .int .i64 (T.ops.length : Nat) ∧ ρ 62 = .int .i64 (k : Nat) ∧ ρ 8 = .int .i64 (k : Nat) ∧ ρ 9 = .pointer (some ⟨ob, 0, none⟩) ∧ ρ 79 = o.ev.1 ∧ ρ 80 = .int .i64 (o.effs.length : Nat) ∧ ρ 81 = .int .i64 (j : Nat) ∧ ρ 11 = .pointer (some ⟨eb, 0, none⟩) ∧ At w2 [] (Star (OwnA (ρ 12) 3 1 nE l0) (Star (ObjA eb (efO e.raw)) (Star (ObjA ob (oqO o.raw)) (HrA b vv fv gv cv lv T.vars.sum T.vars (firsts T.vars T.vars.length) (T.goal.map (numF T.vars)) ((T.ops.take (k + 1)).map (·.cost)) rs)))) w') ?_ ?_
    · have h5d := h5.drew hLE
      have oe5 := h5d.obj
      unfold efO Nf.raw at oe5
      have oo5 := h5d.drop.obj
      unfold oqO No.raw at oo5
      have h5a := h5d.drop.drop
      unfold HrA at h5a
      have hb5 := h5a.obj
      have hfv5 := h5a.drop.own.vw
      simp [g5, g9, g11, cell_blk oe5, cell_blk oo5]
      refine ⟨?_, ?_⟩ <;>
      · refine cl_of (numbers_walk o.pv.1 T.vars o.pre hb5 hfv5 ((hr2.kp h5d.kp).op o hom).pre hnp hsum (by omega)) ?_
        rintro p1 w6 n6
        have h6 := At.nw hLE h5d n6
        have oe6 := h6.drop.obj
        unfold efO Nf.raw at oe6
        have h6a := h6.drop.drop.drop
        unfold HrA at h6a
        simp [g5, g9, g11, cell_blk oe6]
        refine cl_of (numbers_walk e.wv.1 T.vars e.cnd h6a.obj h6a.drop.own.vw (((hr2.kp h6.kp).op o hom).cnd e hem) hnc hsum (by omega)) ?_
        rintro p2 w7 n7
        have h7 := At.nw (Lcl.own.star hLE) h6 n7
        have h8 := h7.by Imp.sw
        simp
        refine At.appendV (xs := e.cnd.map (numF T.vars)) (Lcl.own.star hLE) h8 n7.own.vw nE_len nE_one sl_22 (by simp; omega) (by simp; unfold maxLen; omega) fun v' w9 h9 => ?_
        rw [← List.map_append, ← hl0] at h9
        simp [g1, g5, g60, g61, g62, g8, g9, g79, g80, g81, g11]
        simpa using h9.by (Imp.un Imp.dr)
    clear g1 g5 g60 g61 g62 g8 g9 g79 g80 g81 g11 h5
    rintro ρ w5 ⟨g1, g5, g60, g61, g62, g8, g9, g79, g80, g81, g11, h5⟩
    obtain ⟨nv, g12⟩ : ∃ v, ρ 12 = v := ⟨_, rfl⟩
    rw [g12] at h5
    -- in order
    refine seq_cut (fun ρ w' => ρ 1 = .pointer (some ⟨tb, 0, none⟩) ∧ ρ 5 = .pointer (some ⟨b, 0, none⟩) ∧ ρ 60 = T.ov.1 ∧ ρ 61 = .int .i64 (T.ops.length : Nat) ∧ ρ 62 = .int .i64 (k : Nat) ∧ ρ 8 = .int .i64 (k : Nat) ∧ ρ 9 = .pointer (some ⟨ob, 0, none⟩) ∧ ρ 79 = o.ev.1 ∧ ρ 80 = .int .i64 (o.effs.length : Nat) ∧ ρ 81 = .int .i64 (j : Nat) ∧ ρ 11 = .pointer (some ⟨eb, 0, none⟩) ∧ ρ 12 = nv ∧ ∃ l1 : List Nat, (∀ x, x ∈ l1 ↔ x ∈ l0) ∧ l1.Pairwise (· ≤ ·) ∧ l1.length = l0.length ∧ At w2 [] (Star (OwnA nv 3 1 nE l1) (Star (ObjA eb (efO e.raw)) (Star (ObjA ob (oqO o.raw)) (HrA b vv fv gv cv lv T.vars.sum T.vars (firsts T.vars T.vars.length) (T.goal.map (numF T.vars)) ((T.ops.take (k + 1)).map (·.cost)) rs)))) w') ?_ ?_
    · simp [g12]
      refine cl_of (sort_spec h5.own (by omega)) ?_
      rintro _ w6 ⟨rfl, k6, l1, o6, m6, p6, n6⟩
      have h6 : At w2 [] (Star (OwnA nv 3 1 nE l1) (Star (ObjA eb (efO e.raw)) (Star (ObjA ob (oqO o.raw)) (HrA b vv fv gv cv lv T.vars.sum T.vars (firsts T.vars T.vars.length) (T.goal.map (numF T.vars)) ((T.ops.take (k + 1)).map (·.cost)) rs)))) w6 := h5.step Lcl.own hLE (fun Fa ⟨ho, e⟩ => ⟨nv.own, ⟨o6, rfl⟩, by rw [e]; exact k6, fun x hx => .inl (by rw [e]; exact hx)⟩)
      simp [g1, g5, g60, g61, g62, g8, g9, g79, g80, g81, g11, g12]
      exact ⟨l1, m6, p6, n6, by simpa using h6⟩
    clear g1 g5 g60 g61 g62 g8 g9 g79 g80 g81 g11 g12 h5
    rintro ρ w5 ⟨g1, g5, g60, g61, g62, g8, g9, g79, g80, g81, g11, g12, l1, m1, p1, n1, h5⟩
    have hLN : ∀ l : List Nat, Lcl (Star (OwnA nv 3 1 nE l) (Star (ObjA eb (efO e.raw)) (Star (ObjA ob (oqO o.raw)) (HrA b vv fv gv cv lv T.vars.sum T.vars (firsts T.vars T.vars.length) (T.goal.map (numF T.vars)) ((T.ops.take (k + 1)).map (·.cost)) rs)))) := fun _ => Lcl.own.star hLE
    have h5d := h5.drew (hLN _)
    have oe5 := h5d.drop.obj
    unfold efO Nf.raw at oe5
    have h5a := h5d.drop.drop.drop
    unfold HrA at h5a
    have hb5 := h5a.obj
    unfold hrO at hb5
    have hfv5 := h5a.drop.own.vw
    obtain ⟨q1, q2⟩ := hgo.eff e hem
    have efc := nE_cell hfv5 (firsts_at (vars := T.vars) q1)
    have hfl : (firsts T.vars T.vars.length).length = T.vars.length := by simp [firsts]
    have hvi : (e.v : Int) < T.vars.length := by omega
    have hnf := numF_lt (f := (e.v, e.x)) q1 q2
    unfold numF at hnf
    obtain ⟨mk, hmk⟩ : ∃ x, x = psum T.vars e.v + e.x := ⟨_, rfl⟩
    have emk : ((psum T.vars e.v : Nat) : Int) + (e.x : Nat) = (mk : Int) := by rw [hmk]; simp
    have hmkl : mk < T.vars.sum := by rw [hmk]; exact hnf
    simp (disch := omega) [g5, g8, g11, g12, cell_blk hb5, cell_blk oe5, hfv5.idx, hfl, efc, wrap_i64, emk]
    refine ⟨?_, ?_, ?_, ?_, ?_, ?_, ?_, ?_, ?_, ?_, ?_, ?_, ?_, ?_, ?_, ?_, ?_, ?_, ?_, ?_⟩ <;>
    · refine cl_of (compact_spec h5d.own p1 (by omega)) ?_
      rintro xv w6 ⟨k6, ex, l3, o3, m3, p3, n3⟩
      have h6 : At w2 [] (Star (OwnA xv 3 1 nE l3) (Star (ObjA eb (efO e.raw)) (Star (ObjA ob (oqO o.raw)) (HrA b vv fv gv cv lv T.vars.sum T.vars (firsts T.vars T.vars.length) (T.goal.map (numF T.vars)) ((T.ops.take (k + 1)).map (·.cost)) rs)))) w6 := h5d.step Lcl.own hLE (fun Fa ⟨ho, ee⟩ => ⟨xv.own, ⟨o3, rfl⟩, by rw [ee]; exact k6, fun x hx => .inl (by rw [ee, ← ex]; exact hx)⟩)
      have oe6 := h6.drop.obj
      unfold efO Nf.raw at oe6
      have h6a := h6.drop.drop.drop
      unfold HrA at h6a
      have hb6 := h6a.obj
      unfold hrO at hb6
      have hfv6 := h6a.drop.own.vw
      have efc6 := nE_cell hfv6 (firsts_at (vars := T.vars) q1)
      have cx6 := h6.own.c1
      have ox6 := h6.own.o1
      simp (disch := omega) [g5, g8, g11, g12, cell_blk hb6, cell_blk oe6, hfv6.idx, hfl, efc6, wrap_i64, emk, cx6]
      have hrl : rs.length ≤ 64 * 4096 + 64 := by
        have := hLk.1
        rw [List.length_append, opU_len] at this
        simp at this
        omega
      obtain ⟨r, hr⟩ : ∃ r : Lu, r = ⟨⟨xv, ox6⟩, ⟨k, j, cst T [] k, mk, l3⟩⟩ := ⟨_, rfl⟩
      have h7 := h6
      unfold HrA at h7
      have h8 := h7.by Imp.fr7
      have hL8 : Lcl (Star (OwnA lv 77 3 luE rs) (Star (OwnA xv 3 1 nE l3) (Star (ObjA eb (efO e.raw)) (Star (ObjA ob (oqO o.raw)) (Star (ObjA b (hrO vv fv T.vars.sum gv cv lv)) (Star (OwnA fv 3 1 nE (firsts T.vars T.vars.length)) (Star (OwnA cv 3 1 nE ((T.ops.take (k + 1)).map (·.cost))) (Star (VwsA nE (rs.map luW)) (Star (VwA gv nE (T.goal.map (numF T.vars))) (Star (VwA vv nE T.vars) Emp)))))))))) :=
        Lcl.own.star (Lcl.own.star (Lcl.obj.star (Lcl.obj.star (Lcl.obj.star (Lcl.own.star (Lcl.own.star (Lcl.vws.star (Lcl.vw.star (Lcl.vw.star .emp)))))))))
      have h9 := h8.kp0 hL8 ((Kp.refl [] w6).alloc (.cells #[.int .i64 (k : Nat), .int .i64 (mk : Nat), xv] 77))
      refine At.append (xs := [r]) (Lcl.own.star (Lcl.obj.star (Lcl.obj.star (Lcl.obj.star (Lcl.own.star (Lcl.own.star (Lcl.vws.star (Lcl.vw.star (Lcl.vw.star .emp))))))))) h9 luE_len luE_one sl_71 rfl (fun i x hi => ?_) (by omega) (by unfold maxLen; omega) fun v' w7 h10 => ?_
      · rw [add_none, cell_blk alloc_new]
        simpa [luE, hr] using hi
      have c10 := h10.own.c1
      have o10 := h10.own.o1
      have h11 := h10.by Imp.fr5
      unfold hrO at h11
      simp [g5, c10]
      refine h11.st (Lcl.own.star (Lcl.own.star (Lcl.obj.star (Lcl.obj.star (Lcl.own.star (Lcl.own.star (Lcl.vws.star (Lcl.vw.star (Lcl.vw.star .emp))))))))) (by simp) (by simp [o10]) fun w8 h12 => ?_
      simp [g1, g5, g60, g61, g62, g8, g9, g79, g80, g81, g11, g12]
      have e12 : wrAt #[vv, fv, .int .i64 (T.vars.sum : Nat), gv, cv, lv] 5 [v'] = #[vv, fv, .int .i64 (T.vars.sum : Nat), gv, cv, v'] := by simp
      rw [e12] at h12
      refine ⟨v', rs ++ [r], ?_, ?_⟩
      · rw [List.map_append, opU_succ, unA_at hej, ← List.append_assoc]
        refine hLk.snoc ⟨by rw [hr], by rw [hr]; exact hmk, fun n => ?_, by rw [hr]; show l3.length ≤ 1000000; omega⟩
        rw [hr]
        show n ∈ l3 ↔ n ∈ dedup ((o.pre ++ e.cnd).map (numF T.vars))
        rw [dedup_mem, m3, m1, hl0]
      · have ew : (rs ++ [r]).map luW = rs.map luW ++ [(⟨xv, ox6⟩, l3)] := by simp [luW, hr]
        have h13 := h12.by ((Imp.un (Imp.un (Imp.un Imp.dr))).trans ((Imp.fr4).trans (Imp.un2 (Imp.fr4.trans (Imp.fr4.trans (Imp.un3 (Imp.ow.trans (VwsA.add ox6))))))))
        unfold HrA hrO
        rw [ew]
        simpa using h13
end Go.Proofs.Ytcplpogmbacnfaa
end
section
set_option maxRecDepth 100000
set_option linter.unusedSimpArgs false
set_option linter.unusedVariables false
namespace Go.Proofs.Ytcplpogmbacnfaa
open Go Go.W Go.Tk Go.Rx Go.Lm Go.Maps
theorem uns_rng {T : Nt} {c : Nat → Nat} (hg : NtG T) {u : Un} (hu : u ∈ uns T c) : (∀ n ∈ u.needs, n < T.vars.sum) ∧ u.makes < T.vars.sum ∧ u.op < T.ops.length := by
  obtain ⟨i, o, k, e, hi, ho, he, rfl⟩ := uns_mem hu
  have hgo := hg.ops o (List.mem_of_getElem? ho)
  refine ⟨fun n hn => ?_, ?_, hi⟩
  · obtain ⟨f, hf, rfl⟩ := List.mem_map.1 (dedup_mem.1 hn)
    rcases List.mem_append.1 hf with h1 | h1
    · obtain ⟨a, b⟩ := hgo.pre.rng f h1; exact numF_lt a b
    · obtain ⟨a, b⟩ := (hgo.cnd e (List.mem_of_getElem? he)).rng f h1; exact numF_lt a b
  · obtain ⟨a, b⟩ := hgo.eff e (List.mem_of_getElem? he)
    exact numF_lt a b
theorem vars_sum {T : Nt} (hg : NtG T) : T.vars.sum ≤ 4096 := by
  have hvl := hg.vlen
  have := sum_le (N := 64) fun n hn => (hg.vars n hn).2
  omega
theorem lu_ok {T : Nt} {UL : List Un} (hg : NtG T) (h : Lk UL (uns T (cst T []))) : LuOk UL T.vars.sum (T.ops.map (·.cost)).length := {
  rng := fun u hu n hn => by
    obtain ⟨v, hv, he⟩ := h.left hu
    exact (uns_rng hg hv).1 n ((he.nd n).1 hn)
  made := fun u hu => by
    obtain ⟨v, hv, he⟩ := h.left hu
    rw [he.mq]
    exact (uns_rng hg hv).2.1
  op := fun u hu => by
    obtain ⟨v, hv, he⟩ := h.left hu
    rw [he.op, List.length_map]
    exact (uns_rng hg hv).2.2
  nl := fun u hu => by
    obtain ⟨v, hv, he⟩ := h.left hu
    exact he.nl
  ul := by
    rw [h.1]
    have := unsK_len (cost := cst T []) (fun o ho => (hg.ops o ho).elen) T.ops.length
    have := hg.olen
    show (unsK T (cst T []) T.ops.length).length ≤ 1000000
    omega
  nn := vars_sum hg }
theorem cf_cst {T : Nt} : cf (T.ops.map (·.cost)) = cst T [] := by
  funext i
  unfold cf cst
  simp only [List.length_nil, if_true, List.getD, List.getElem?_map]
  cases T.ops[i]? <;> rfl
theorem goal_lt {T : Nt} (hg : NtG T) : ∀ x ∈ T.goal.map (numF T.vars), x < T.vars.sum := fun x hx => by
  obtain ⟨f, hf, rfl⟩ := List.mem_map.1 hx
  obtain ⟨a, b⟩ := hg.goal.rng f hf
  exact numF_lt a b
theorem goal_len {T : Nt} (hg : NtG T) : (T.goal.map (numF T.vars)).length ≤ 1000000 := by
  have := hg.goal.len
  have := hg.vlen
  rw [List.length_map]
  omega
theorem costs_le {T : Nt} (hg : NtG T) : ∀ x ∈ T.ops.map (·.cost), x ≤ 1048576 := fun x hx => by
  obtain ⟨o, ho, rfl⟩ := List.mem_map.1 hx
  exact (hg.ops o ho).cost
theorem costs_len {T : Nt} (hg : NtG T) : (T.ops.map (·.cost)).length ≤ 4096 := by
  rw [List.length_map]
  exact hg.olen
section
variable {w : World} {b : Nat} {T : Nt}
theorem hx_cuts (sv : Value) (s : List Nat) (hR : Hrx b T w) (hg : NtG T) (hs : Vw w sv nE s) (hst : StN T.vars s) :
    Calls Try.prog 15 [.pointer (some ⟨b, 0, none⟩), sv].toArray w fun e w' => ∃ x, e = .returned x ∧ CutsP (uns T (cst T [])) (stN T.vars s T.vars.length) (T.goal.map (numF T.vars)) (cst T []) x w' ∧ Kp [] w w' := by
  obtain ⟨UL, vv, fv, gv, cv, lv, rs, hk, hR⟩ := hR
  refine Calls.mono (cuts_walk sv s hR hs hst (lu_ok hg hk) hg.vlen (goal_lt hg) (goal_len hg) (costs_le hg) (costs_len hg)) ?_
  rintro e w' ⟨x, rfl, ⟨r, hr, hx⟩, k⟩
  rw [cf_cst] at hr
  exact ⟨x, rfl, ⟨r, hk.lmc hr, hx⟩, k⟩
theorem hx_value (sv : Value) (s : List Nat) (hR : Hrx b T w) (hg : NtG T) (hs : Vw w sv nE s) (hst : StN T.vars s) :
    Calls Try.prog 17 [.pointer (some ⟨b, 0, none⟩), sv].toArray w fun e w' => ∃ x, e = .returned x ∧ valP (uns T (cst T [])) (stN T.vars s T.vars.length) (T.goal.map (numF T.vars)) (cst T []) x ∧ Kp [] w w' := by
  obtain ⟨UL, vv, fv, gv, cv, lv, rs, hk, hR⟩ := hR
  refine Calls.mono (value_walk sv s hR hs hst (lu_ok hg hk) hg.vlen (goal_lt hg) (goal_len hg) (costs_le hg) (costs_len hg)) ?_
  rintro e w' ⟨x, rfl, ⟨r, hr, hx⟩, k⟩
  rw [cf_cst] at hr
  exact ⟨x, rfl, ⟨r, hk.lmc hr, hx⟩, k⟩
end
end Go.Proofs.Ytcplpogmbacnfaa
end
section
set_option linter.unusedVariables false
set_option linter.unusedSimpArgs false
namespace Go.Lm
open Go.Rx
def E2 : List Un := [⟨0, 0, 2, 1, []⟩, ⟨1, 0, 3, 3, []⟩]
def cE (a b : Nat) : Nat → Nat := fun i => if i = 0 then a else if i = 1 then b else 0
def vE (a b : Nat) : Nat → Nat := fun f => if f = 0 then 0 else if f = 1 then a else if f = 2 then 0 else if f = 3 then b else Inf
def vF : Nat → Nat := fun f => if f = 1 then 0 else if f = 3 then 0 else Inf
theorem mem_E2 {u : Un} {c : Nat → Nat} (h : u ∈ wc E2 c) : u = ⟨0, 0, c 0, 1, []⟩ ∨ u = ⟨1, 0, c 1, 3, []⟩ := by
  simpa [wc, E2] using h
theorem vE_val {a b : Nat} (ha : a ≤ 9) (hb : b ≤ 9) : IsVal (wc E2 (cE a b)) [0, 2] (vE a b) := {
  s0 := by simp [vE]
  cl := fun u hu _ => by
    rcases mem_E2 hu with rfl | rfl <;> simp [vE, cE, gr]
  der := fun f hf => by
    have h1 : Der (wc E2 (cE a b)) [0, 2] 1 a := by
      have := Der.step (U := wc E2 (cE a b)) (S := [0, 2]) (u := ⟨0, 0, a, 1, []⟩) (by simp [wc, E2, cE]) (fun _ => 0) (fun n hn => by cases hn)
      simpa [gr] using this
    have h3 : Der (wc E2 (cE a b)) [0, 2] 3 b := by
      have := Der.step (U := wc E2 (cE a b)) (S := [0, 2]) (u := ⟨1, 0, b, 3, []⟩) (by simp [wc, E2, cE]) (fun _ => 0) (fun n hn => by cases hn)
      simpa [gr] using this
    unfold vE at hf ⊢
    by_cases e0 : f = 0
    · subst e0; exact .base (by simp)
    by_cases e1 : f = 1
    · subst e1; simpa using h1
    by_cases e2 : f = 2
    · subst e2; exact .base (by simp)
    by_cases e3 : f = 3
    · subst e3; simpa using h3
    simp [e0, e1, e2, e3] at hf
  le := fun f => by
    unfold vE Inf
    repeat' split
    all_goals omega }
theorem vF_val {c : Nat → Nat} : IsVal (wc E2 c) [1, 3] vF := {
  s0 := by simp [vF]
  cl := fun u hu _ => by
    rcases mem_E2 hu with rfl | rfl <;> simp [vF]
  der := fun f hf => by
    unfold vF at hf ⊢
    by_cases e1 : f = 1
    · subst e1; exact .base (by simp)
    by_cases e3 : f = 3
    · subst e3; exact .base (by simp)
    simp [e1, e3] at hf
  le := fun f => by
    unfold vF Inf
    repeat' split
    all_goals omega }
theorem arcs_E2 {V : Nat → Nat} : arcs E2 V = [⟨none, 1, 0⟩, ⟨none, 3, 1⟩] := by
  simp [arcs, E2, arU, gst, gr, Inf]
theorem tz_E2 {c : Nat → Nat} {g f : Nat} (h : TZ [⟨none, 1, 0⟩, ⟨none, 3, 1⟩] c g f) : f = g := by
  cases h with
  | base => rfl
  | step ha hf _ _ =>
    simp at ha
    rcases ha with rfl | rfl <;> cases hf
theorem xo_E2 {V c : Nat → Nat} {S0 : List Nat} {i g op : Nat} (h : (i = 0 ∧ g = 1) ∨ (i = 1 ∧ g = 3)) : op ∈ [i] ↔ XO (arcs E2 V) c S0 g op := by
  rw [arcs_E2, List.mem_singleton]
  constructor
  · rintro rfl
    rcases h with ⟨rfl, rfl⟩ | ⟨rfl, rfl⟩
    · exact ⟨⟨none, 1, 0⟩, by simp, rfl, .inl rfl, .base⟩
    · exact ⟨⟨none, 3, 1⟩, by simp, rfl, .inl rfl, .base⟩
  · rintro ⟨a, ha, e, _, ht⟩
    have ht := tz_E2 ht
    simp at ha
    rcases ha with rfl | rfl <;> simp at ht e <;> omega
theorem ex_cuts : LmC E2 [0, 2] [1, 3] (cE 2 3) (some [([1], 3), ([0], 2)]) := by
  have h0 : LmC E2 [0, 2] [1, 3] (cE 0 0) (some []) := .nil (vE_val (by omega) (by omega)) (by decide)
  have e1 : sub (cE 2 0) [0] 2 = cE 0 0 := by
    funext i; unfold sub cE
    by_cases h : i = 0 <;> simp [h]
  have h1 : LmC E2 [0, 2] [1, 3] (cE 2 0) (some [([0], 2)]) := by
    refine LmC.cut (r := some []) (V := vE 2 0) (L := [0]) (m := 2) (vE_val (by omega) (by omega)) (by decide) (by decide) ⟨⟨1, by decide, fun op => xo_E2 (.inl ⟨rfl, rfl⟩)⟩, by simp, by simp [cE], by simp [cE]⟩ ?_
    rw [e1]; exact h0
  have e2 : sub (cE 2 3) [1] 3 = cE 2 0 := by
    funext i; unfold sub cE
    by_cases h : i = 1
    · subst h; simp
    · simp [h]
  refine LmC.cut (r := some [([0], 2)]) (V := vE 2 3) (L := [1]) (m := 3) (vE_val (by omega) (by omega)) (by decide) (by decide) ⟨⟨3, by decide, fun op => xo_E2 (.inr ⟨rfl, rfl⟩)⟩, by simp, by simp [cE], by simp [cE]⟩ ?_
  rw [e2]; exact h1
theorem ex_done {c : Nat → Nat} : LmC E2 [1, 3] [1, 3] c (some []) := .nil vF_val (by decide)
end Go.Lm
end
section
set_option maxRecDepth 100000
set_option linter.unusedSimpArgs false
set_option linter.unusedVariables false
namespace Go.Proofs.Ytcplpogmbacnfaa
open Go Go.W Go.Tk Go.Rx Go.Lm Go.Maps
def nC : Cell1 := ⟨.slice none 0 0, rfl⟩
/-- The example. -/
def exT (vv nv gv ov e0 e1 : Cell1) : Nt := ⟨vv, nv, gv, ov, [2, 2], [0, 0], [(0, 1), (1, 1)], [⟨ByteArray.empty, 2, nC, [], e0, [⟨nC, [], 0, 1⟩]⟩, ⟨ByteArray.empty, 3, nC, [], e1, [⟨nC, [], 1, 1⟩]⟩]⟩
set_option maxHeartbeats 1000000 in
theorem example_spec {w : World} : Calls Try.prog 30 [].toArray w fun e w' => ∃ x, e = .returned x ∧ ∃ vv nv gv ov e0 e1, x = ntV (exT vv nv gv ov e0 e1) ∧ NtR w' (exT vv nv gv ov e0 e1) ∧ Kp [] w w' := by
  refine enter Try.func30 mixed low30 (Nat.le_of_ble_eq_true rfl) ?_
  simp only [L30]
  have e0 : ∀ (w : World) (o : Obj), (w.alloc o).heap.size = w.heap.size + 1 := fun w o => by simp
  obtain ⟨rb, hrb⟩ : ∃ rb, rb = w.heap.size := ⟨_, rfl⟩
  have a1 : At w [] (Star (ObjA rb (.cells #[.slice none 0 0, .slice none 0 0, .slice none 0 0, .slice none 0 0] 26 (0, 0))) Emp) (w.alloc (.cells #[.slice none 0 0, .slice none 0 0, .slice none 0 0, .slice none 0 0] 26 (0, 0))) := by rw [hrb]; exact (At.start rfl).alloc _ .emp
  have a2 := a1.lit (xs := [2, 2]) (enc := nE) (E := 3) (sz := 1) (cs := #[.int .i64 2, .int .i64 2]) (m := 2) (Lcl.obj.star .emp) (by simp [nE]) nE_len (by simp [maxLen]) rfl
  have a3 := a2.lit (xs := [0, 0]) (enc := nE) (E := 3) (sz := 1) (cs := #[.int .i64 0, .int .i64 0]) (m := 2) (Lcl.own.star (Lcl.obj.star .emp)) (by simp [nE]) nE_len (by simp [maxLen]) rfl
  have a4 := a3.lit (xs := [((0, 1) : Fc), (1, 1)]) (enc := fcE) (E := 58) (sz := 2) (cs := #[.int .i64 0, .int .i64 1, .int .i64 1, .int .i64 1]) (m := 2) (Lcl.own.star (Lcl.own.star (Lcl.obj.star .emp))) (by simp [fcE]) fcE_len (by simp [maxLen]) rfl
  have a5 := a4.lit (xs := [(⟨nC, [], 0, 1⟩ : Nf)]) (enc := nfE) (E := 60) (sz := 3) (cs := #[.slice none 0 0, .int .i64 0, .int .i64 1]) (m := 1) (Lcl.own.star (Lcl.own.star (Lcl.own.star (Lcl.obj.star .emp)))) (by simp [nfE, nC]) nfE_len (by simp [maxLen]) rfl
  have a6 := a5.lit (xs := [(⟨nC, [], 1, 1⟩ : Nf)]) (enc := nfE) (E := 60) (sz := 3) (cs := #[.slice none 0 0, .int .i64 1, .int .i64 1]) (m := 1) (Lcl.own.star (Lcl.own.star (Lcl.own.star (Lcl.own.star (Lcl.obj.star .emp))))) (by simp [nfE, nC]) nfE_len (by simp [maxLen]) rfl
  simp only [e0, ← hrb] at a2 a3 a4 a5 a6
  obtain ⟨vv, hvv⟩ : ∃ vv, vv = Value.slice (some ⟨rb + 1, 0, none⟩) 2 2 := ⟨_, rfl⟩
  obtain ⟨nv, hnv⟩ : ∃ nv, nv = Value.slice (some ⟨rb + 1 + 1, 0, none⟩) 2 2 := ⟨_, rfl⟩
  obtain ⟨gv, hgv⟩ : ∃ gv, gv = Value.slice (some ⟨rb + 1 + 1 + 1, 0, none⟩) 2 2 := ⟨_, rfl⟩
  obtain ⟨ev, hev⟩ : ∃ ev, ev = Value.slice (some ⟨rb + 1 + 1 + 1 + 1, 0, none⟩) 1 1 := ⟨_, rfl⟩
  obtain ⟨fv, hfv⟩ : ∃ fv, fv = Value.slice (some ⟨rb + 1 + 1 + 1 + 1 + 1, 0, none⟩) 1 1 := ⟨_, rfl⟩
  obtain ⟨ov, hov⟩ : ∃ ov, ov = Value.slice (some ⟨rb + 1 + 1 + 1 + 1 + 1 + 1, 0, none⟩) 2 2 := ⟨_, rfl⟩
  have o1 : oneC vv = true := by rw [hvv]; rfl
  have o2 : oneC nv = true := by rw [hnv]; rfl
  have o3 : oneC gv = true := by rw [hgv]; rfl
  have o4 : oneC ev = true := by rw [hev]; rfl
  have o5 : oneC fv = true := by rw [hfv]; rfl
  have o6 : oneC ov = true := by rw [hov]; rfl
  rw [← hgv, ← hnv, ← hvv, ← hev, ← hfv] at a6
  have a7 := a6.lit (xs := [(⟨ByteArray.empty, 2, nC, [], ⟨ev, o4⟩, [⟨nC, [], 0, 1⟩]⟩ : No), ⟨ByteArray.empty, 3, nC, [], ⟨fv, o5⟩, [⟨nC, [], 1, 1⟩]⟩]) (enc := noE) (E := 51) (sz := 4) (cs := #[.string ByteArray.empty, .int .i64 2, .slice none 0 0, ev, .string ByteArray.empty, .int .i64 3, .slice none 0 0, fv]) (m := 2) (Lcl.own.star (Lcl.own.star (Lcl.own.star (Lcl.own.star (Lcl.own.star (Lcl.obj.star .emp)))))) (by simp [noE, nC]) noE_len (by simp [maxLen]) rfl
  simp only [e0, ← hrb] at a7
  rw [← hov] at a7
  simp [rowOf, ← hrb]
  rw [← hgv, ← hnv, ← hvv, ← hev, ← hfv, ← hov]
  refine (a7.by Imp.fr7).st (Lcl.own.star (Lcl.own.star (Lcl.own.star (Lcl.own.star (Lcl.own.star (Lcl.own.star .emp)))))) (by simp) (by simp [o1, o2, o3, o6]) fun w8 h8 => ?_
  simp
  refine postL_c1 ag_26 (by simp) h8.obj (by simp) rfl ?_
  have hf := h8.drop
  refine ⟨_, rfl, vv, o1, nv, o2, gv, o3, ov, o6, ev, o4, fv, o5, by simp [ntV, exT], ⟨hf.drop.drop.drop.drop.drop.own.vw, hf.drop.drop.drop.drop.own.vw, hf.drop.drop.drop.own.vw, hf.own.vw, fun o ho => ?_⟩, h8.kp⟩
  simp only [exT, List.mem_cons, List.not_mem_nil, or_false] at ho
  rcases ho with rfl | rfl
  · exact ⟨Vw.nil _ _, hf.drop.drop.own.vw, fun e he => by simp at he; subst he; exact Vw.nil _ _⟩
  · exact ⟨Vw.nil _ _, hf.drop.own.vw, fun e he => by simp at he; subst he; exact Vw.nil _ _⟩
end Go.Proofs.Ytcplpogmbacnfaa
end
