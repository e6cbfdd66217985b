/-
  A part of the proof of this claim's statement (WhFs, LibR): plain theorems; no conditions beyond those each names.
-/
import Derived.Test.YtolkjbmcindhjaaGreatPk15
import Derived.Test.YtolkjbmcindhjaaGreatPk11
import Derived.RangeFuncCalls
import Derived.TacticsIn
section
set_option maxRecDepth 100000
set_option linter.unusedSimpArgs false
set_option linter.unusedVariables false
namespace Go.Proofs.YtolkjbmcindhjaaGreat
open Go Go.W Go.Tk Go.Rx Go.Maps
/-- A new fraction is put into its block. -/
theorem st_fr0 {f : Fr} {b : Nat} {w wa : World} {F : List Nat} {X : Asr} {KW : Kont World} (hX : Lcl X) (h : At w F X wa) (hb : b = wa.heap.size) (H : ∀ w2, At w F (Star (ObjA b (frO f)) X) w2 → KW.run w2) :
    @stJ (wa.alloc (.cells #[.int .i64 0, .int .i64 0] 151 (0, 0))) ⟨b, 0, none⟩ [.int .i64 f.1, .int .i64 f.2] KW := by
  have h1 : At w F (Star (ObjA b (frO (0, 0))) X) (wa.alloc (frO (0, 0))) := by rw [hb]; exact h.alloc _ hX
  exact st_fr (f := (0, 0)) (g := f) hX h1 H
def SuI (r sb : Nat) (lv : Value) (l : List Fr) (w : World) (k : Nat) (ρ : Env) (w' : World) : Prop :=
  ρ 2 = .pointer (some ⟨r, 0, none⟩) ∧ ρ 4 = .pointer (some ⟨sb, 0, none⟩) ∧ ρ 10 = lv ∧ ∃ s, frP s = true ∧ frSum l (0, 1) = frSum (l.drop k) s ∧ At w [] (Star (ObjA sb (frO s)) (Star (ObjA r (frO (0, 0))) Emp)) w'
set_option maxHeartbeats 1000000 in
theorem sum9_spec {w : World} (lv : Value) (l : List Fr) (hv : Vw w lv frE l) (hl : l.length ≤ 1000000) (hp : ∀ f ∈ l, frP f = true) :
    Calls Tryz.prog 77 [lv].toArray w fun e w' => ∃ x, e = .returned x ∧ x = frR (frSum l (0, 1)) ∧ Kp [] w w' := by
  refine enter Tryz.func77 mixed low77 (Nat.le_of_ble_eq_true rfl) ?_
  simp only [L77]
  obtain ⟨r, hr⟩ : ∃ r, r = w.heap.size := ⟨_, rfl⟩
  have h1 : At w [] (Star (ObjA r (frO (0, 0))) Emp) (w.alloc (frO (0, 0))) := by rw [hr]; exact (At.start rfl).alloc _ .emp
  obtain ⟨w1, hw1⟩ : ∃ w1, w1 = w.alloc (frO (0, 0)) := ⟨_, rfl⟩
  rw [← hw1] at h1
  have hw1' : w.alloc (.cells #[.int .i64 0, .int .i64 0] 151 (0, 0)) = w1 := by rw [hw1]; rfl
  have hL : Lcl (Star (ObjA r (frO (0, 0))) Emp) := Lcl.obj.star .emp
  have hL2 : ∀ b f, Lcl (Star (ObjA b (frO f)) (Star (ObjA r (frO (0, 0))) Emp)) := fun _ _ => Lcl.obj.star hL
  obtain ⟨sb, hsb⟩ : ∃ sb, sb = w1.heap.size := ⟨_, rfl⟩
  simp [← hr, hw1', ← hsb]
  refine st_fr0 (f := (0, 1)) hL h1 hsb fun w2 h2 => ?_
  simp [(hv.kp0 h2.kp).len]
  refine range_loop (n := l.length) (by omega) (SuI r sb lv l w) (by simp) (by simp)
    ⟨by simp, by simp [← hsb], by simp, (0, 1), by decide, by simp, h2⟩ (by decide) (fun _ _ _ _ h => by simpa [SuI] using h) (fun _ _ _ _ h => by simpa [SuI] using h) ?_ ?_
  rotate_left
  · rintro ρ w3 ⟨g2, g4, g10, s, hs, he, h3⟩
    rw [List.drop_length] at he
    simp [g4, g2, rd_fr h3.obj]
    refine st_fr (f := (0, 0)) (g := s) (Lcl.obj.star .emp) (h3.by Imp.sw) fun w4 h4 => ?_
    simp
    refine postL_c2 ag_151 (by simp [g2]) h4.obj rfl rfl ?_
    refine ⟨_, rfl, ?_, h4.kp⟩
    rw [he]
    simp [frSum, frR, frV]
  clear h1 h2 hw1 hw1' hr hsb
  rintro k ρ w3 hk hc hlm ⟨g2, g4, g10, s, hs, he, h3⟩
  obtain ⟨f, hf⟩ : ∃ f, l[k]? = some f := ⟨_, List.getElem?_eq_getElem hk⟩
  have hfp := hp f (List.mem_of_getElem? hf)
  have hdr : l.drop k = f :: l.drop (k + 1) := by rw [List.drop_eq_getElem_cons hk, (List.getElem?_eq_some_iff.1 hf).2]
  rw [hdr] at he
  simp only [frSum] at he
  have hv3 := hv.kp0 h3.kp
  have ecf := hv3.cells frE_len hf
  simp only [frE] at ecf
  obtain ⟨fb, hfb⟩ : ∃ fb, fb = w3.heap.size := ⟨_, rfl⟩
  have hki : (k : Int) < l.length := by omega
  simp (disch := omega) [g10, hc, hlm, hv3.idx, ecf, ← hfb]
  refine st_fr0 (f := f) (hL2 _ _) h3 hfb fun w4 h4 => ?_
  have rf4 := rd_fr h4.obj
  rw [hfb] at rf4
  simp [g4, rd_fr h4.drop.obj, rf4]
  refine cl_of (add9_spec s f hs hfp) ?_
  rintro _ w5 ⟨rfl, k5⟩
  have h5 := h4.kp0 (Lcl.obj.star (hL2 _ _)) k5
  have hL5 : Lcl (Star (ObjA fb (frO f)) (Star (ObjA sb (frO s)) (Star (ObjA r (frO (0, 0))) Emp))) := Lcl.obj.star (hL2 _ _)
  obtain ⟨nb, hnb⟩ : ∃ nb, nb = w5.heap.size := ⟨_, rfl⟩
  cases ha : frAdd s f with
  | none =>
    rw [ha] at he
    simp [frR, frV, ← hnb]
    refine st_fr0 (f := (0, 0)) hL5 h5 hnb fun w6 h6 => ?_
    simp [errV, g2]
    refine st_fr (f := (0, 0)) (g := (0, 0)) (Lcl.obj.star (Lcl.obj.star (Lcl.obj.star .emp))) (h6.by Imp.fr4) fun w7 h7 => ?_
    simp
    refine postL_c2 ag_151 (by simp [g2]) h7.obj rfl rfl ?_
    refine ⟨_, rfl, ?_, h7.kp⟩
    rw [he]
    simp [frR, frV, errV]
  | some s' =>
    rw [ha] at he
    simp [frR, frV, ← hnb]
    refine st_fr0 (f := s') hL5 h5 hnb fun w6 h6 => ?_
    have rs6 := rd_fr h6.obj
    rw [hnb] at rs6
    simp [g4, rs6]
    refine st_fr (f := s) (g := s') (Lcl.obj.star (Lcl.obj.star (Lcl.obj.star .emp))) (h6.by Imp.fr3) fun w7 h7 => ?_
    simp [hc, hlm]
    exact ⟨by simp [g2], by simp [g4], by simp [g10], s', frAdd_ok hs hfp ha, he, h7.by (Imp.un (Imp.dr.trans Imp.dr))⟩
def frCmp (a b : Fr) : Int := if a.1 * b.2 < b.1 * a.2 then -1 else if b.1 * a.2 < a.1 * b.2 then 1 else 0
theorem cmp9_spec {w : World} (a b : Fr) (ha : frP a = true) (hb : frP b = true) :
    Calls Tryz.prog 79 [frV a, frV b].toArray w fun e w' => ∃ x, e = .returned x ∧ x = .int .i64 (frCmp a b) ∧ Kp [] w w' := by
  refine enter Tryz.func79 mixed low79 (Nat.le_of_ble_eq_true rfl) ?_
  simp only [L79]
  have ha' := frP_iff.1 ha
  have hb' := frP_iff.1 hb
  obtain ⟨ab, hab⟩ : ∃ ab, ab = w.heap.size := ⟨_, rfl⟩
  have a1 : At w [] (Star (ObjA ab (frO a)) Emp) (w.alloc (frO a)) := by rw [hab]; exact (At.start rfl).alloc _ .emp
  have hL1 : Lcl (Star (ObjA ab (frO a)) Emp) := Lcl.obj.star .emp
  have a2 := a1.alloc (frO b) hL1
  have s1 : (w.alloc (frO a)).heap.size = ab + 1 := by rw [hab]; simp
  rw [s1] at a2
  obtain ⟨w2, hw2⟩ : ∃ w2, w2 = (w.alloc (frO a)).alloc (frO b) := ⟨_, rfl⟩
  rw [← hw2] at a2
  have hw2' : (w.alloc (.cells #[.int .i64 a.1, .int .i64 a.2] 151 (0, 0))).alloc (.cells #[.int .i64 b.1, .int .i64 b.2] 151 (0, 0)) = w2 := by rw [hw2]; rfl
  have hL2 : Lcl (Star (ObjA (ab + 1) (frO b)) (Star (ObjA ab (frO a)) Emp)) := Lcl.obj.star hL1
  have a3 := a2.drew hL2
  have ra := rd_fr a3.drop.obj
  have rb := rd_fr a3.obj
  simp [frV, hw2', ← hab, ra, rb]
  have m1 := mul_bd ha'.2.2.1 ha'.2.2.2.1 hb'.1 hb'.2.1
  have m2 := mul_bd hb'.2.2.1 hb'.2.2.2.1 ha'.1 ha'.2.1
  obtain ⟨x, hx⟩ : ∃ x, x = a.1 * b.2 := ⟨_, rfl⟩
  obtain ⟨y, hy⟩ : ∃ y, y = b.1 * a.2 := ⟨_, rfl⟩
  have hcmp : frCmp a b = if x < y then -1 else if y < x then 1 else 0 := by unfold frCmp; rw [hx, hy]
  rw [← hx] at m1
  rw [← hy] at m2
  refine ⟨?_, ?_⟩
  all_goals
    refine cl_of (value_spec a ha) ?_
    rintro _ w4 ⟨rfl, k4⟩
    have a4 := a3.kp0 hL2 k4
    have rb4 := rd_fr a4.obj
    simp [frV, rb4]
    refine cl_of (value_spec b hb) ?_
    rintro _ w5 ⟨rfl, k5⟩
    have a5 := a4.kp0 hL2 k5
    simp [frV]
    refine st_fr (f := a) (g := a) (Lcl.obj.star .emp) (a5.by Imp.sw) fun w6 a6 => ?_
    simp [frV]
    refine st_fr (f := b) (g := b) (Lcl.obj.star .emp) (a6.by Imp.sw) fun w7 a7 => ?_
    have oa7 := a7.drop.obj
    unfold frO at oa7
    have ob7 := a7.obj
    unfold frO at ob7
    have hk7 := a7.kp.drew
    by_cases t1 : x < y
    · rw [if_pos t1] at hcmp
      simp (disch := omega) [cell_blk oa7, cell_blk ob7, ← hx, ← hy, wrap_i64, t1, hcmp]
      exact hk7
    · rw [if_neg t1] at hcmp
      by_cases t2 : y < x
      · rw [if_pos t2] at hcmp
        simp (disch := omega) [cell_blk oa7, cell_blk ob7, ← hx, ← hy, wrap_i64, t1, t2, hcmp]
        exact hk7
      · rw [if_neg t2] at hcmp
        simp (disch := omega) [cell_blk oa7, cell_blk ob7, ← hx, ← hy, wrap_i64, t1, t2, hcmp]
        exact hk7
def frCeil (f : Fr) : Int := if f.1.tdiv f.2 * f.2 < f.1 then f.1.tdiv f.2 + 1 else f.1.tdiv f.2
theorem ceil9_spec {w : World} (f : Fr) (hf : frP f = true) :
    Calls Tryz.prog 107 [frV f].toArray w fun e w' => ∃ x, e = .returned x ∧ x = .int .i64 (frCeil f) ∧ Kp [] w w' := by
  refine enter Tryz.func107 mixed low107 (Nat.le_of_ble_eq_true rfl) ?_
  simp only [L107]
  have hf' := frP_iff.1 hf
  obtain ⟨b, hb⟩ : ∃ b, b = w.heap.size := ⟨_, rfl⟩
  have h1 : At w [] (Star (ObjA b (frO f)) Emp) (w.alloc (frO f)) := by rw [hb]; exact (At.start rfl).alloc _ .emp
  obtain ⟨w1, hw1⟩ : ∃ w1, w1 = w.alloc (frO f) := ⟨_, rfl⟩
  rw [← hw1] at h1
  have hw1' : w.alloc (.cells #[.int .i64 f.1, .int .i64 f.2] 151 (0, 0)) = w1 := by rw [hw1]; rfl
  have hL : Lcl (Star (ObjA b (frO f)) Emp) := Lcl.obj.star .emp
  obtain ⟨d, hd⟩ : ∃ d : Nat, f.2 = (d : Int) := ⟨f.2.natAbs, by omega⟩
  obtain ⟨q, hq⟩ : ∃ q, q = f.1.tdiv f.2 := ⟨_, rfl⟩
  have hq1 : q.natAbs ≤ f.1.natAbs := by rw [hq, hd]; exact tdiv_le (by omega)
  have hm := mul_bd (x := q) (y := f.2) (by omega) (by omega) hf'.1 hf'.2.1
  obtain ⟨z, hz⟩ : ∃ z, z = q * f.2 := ⟨_, rfl⟩
  have hceil : frCeil f = if z < f.1 then q + 1 else q := by unfold frCeil; rw [hz, hq]
  rw [← hz] at hm
  have h0 : ¬ f.2 = 0 := by omega
  simp [frV, ← hb, hw1', rd_fr h1.obj]
  refine cl_of (value_spec f hf) ?_
  rintro _ w2 ⟨rfl, k2⟩
  have h2 := h1.kp0 hL k2
  simp [frV]
  refine st_fr (f := f) (g := f) .emp h2 fun w3 h3 => ?_
  have o3 := h3.obj
  unfold frO at o3
  have hk3 := h3.kp
  by_cases t1 : z < f.1
  · rw [if_pos t1] at hceil
    simp (disch := omega) [cell_blk o3, ← hq, ← hz, wrap_i64, h0, t1, hceil]
    exact hk3
  · rw [if_neg t1] at hceil
    simp (disch := omega) [cell_blk o3, ← hq, ← hz, wrap_i64, h0, t1, hceil]
    exact hk3
def vlR (o : Option Fr) : Value := match o with | some f => .tuple #[.int .i64 (frCeil f), .nilIface] | none => .tuple #[.int .i64 0, errV 5]
theorem frSum_ok : ∀ {l : List Fr} {s f : Fr}, frP s = true → (∀ x ∈ l, frP x = true) → frSum l s = some f → frP f = true
  | [], s, f, hs, _, h => by simp only [frSum, Option.some.injEq] at h; subst h; exact hs
  | x :: l, s, f, hs, hl, h => by
    simp only [frSum] at h
    cases ha : frAdd s x with
    | none => rw [ha] at h; cases h
    | some s' =>
      rw [ha] at h
      exact frSum_ok (frAdd_ok hs (hl x (by simp)) ha) (fun y hy => hl y (List.mem_cons_of_mem _ hy)) h
theorem paValue_spec {w : World} (lv : Value) (l : List Fr) (hv : Vw w lv frE l) (hl : l.length ≤ 1000000) (hp : ∀ f ∈ l, frP f = true) :
    Calls Tryz.prog 45 [lv].toArray w fun e w' => ∃ x, e = .returned x ∧ x = vlR (frSum l (0, 1)) ∧ Kp [] w w' := by
  refine enter Tryz.func45 mixed low45 (Nat.le_of_ble_eq_true rfl) ?_
  simp only [L45]
  simp
  refine cl_of (sum9_spec lv l hv hl hp) ?_
  rintro _ w1 ⟨rfl, k1⟩
  have h1 : At w [] Emp w1 := At.kp0 .emp (At.start rfl) k1
  obtain ⟨b, hb⟩ : ∃ b, b = w1.heap.size := ⟨_, rfl⟩
  cases hs : frSum l (0, 1) with
  | none =>
    simp [frR, frV, ← hb]
    refine st_fr0 (f := (0, 0)) .emp h1 hb fun w2 h2 => ?_
    simp [errV, vlR]
    exact h2.kp
  | some f =>
    have hfp := frSum_ok (by decide) hp hs
    simp [frR, frV, ← hb]
    refine st_fr0 (f := f) .emp h1 hb fun w2 h2 => ?_
    have r2 := rd_fr h2.obj
    rw [hb] at r2
    simp [r2]
    refine cl_of (ceil9_spec f hfp) ?_
    rintro _ w3 ⟨rfl, k3⟩
    simp [vlR]
    exact h2.kp.trans k3
end Go.Proofs.YtolkjbmcindhjaaGreat
end
section
set_option maxRecDepth 100000
set_option linter.unusedVariables false
namespace Go.W
open Go Go.RowKit
/-- Code without loops and without deferred calls. -/
def plainC : Code → Bool
  | .skip => true
  | .region _ ops _ => ops.toList.all fun o => match o.op with | .defer _ => false | _ => true
  | .seq a b => plainC a && plainC b
  | .cond _ a b => plainC a && plainC b
  | .block _ a => plainC a
  | .ret => true
  | .exit _ => true
  | _ => false
section
variable {P : Program} {types : Array TypeInfo} {ops : Array Oper} {n : Nat}
theorem stepE_wpIn {l k : Nat} {o : Oper} {a : Act} {w : World} {K : Act → World → Prop} {Q : Exit → Act → World → Prop} (hd : ∀ c, o.op ≠ .defer c) (h : stepE P o a w fun v w' => K (a.put o.dst v) w') : o.wpIn (Fence.wide.inRound l) k P a w K Q := by
  refine ⟨fun _ _ => trivial, ?_⟩
  rw [show (o.semAt (Fence.wide.inRound l).round a.eval) = execOp a.eval o from Oper.semAt_eq _ _ _ hd]
  unfold stepE at h
  generalize (execOp a.eval o).run P w = r at *
  cases r with
  | ok x w' =>
    cases x <;> simp only at h <;> simp only [Oper.uponIn]
    case value v => exact h
    case skip => exact h
    case enter f args => exact ⟨(fun hx => (by cases hx)), CallsIn.inRound l (callsIn_wide.2 (h.mono fun e w'' ⟨v, he, hk⟩ => by subst he; exact hk))⟩
  | halt x w' => simp only at h
theorem stepC_wpIn {c l k : Nat} {o : Oper} {a : Act} {w : World} {K : Act → World → Prop} {Q : Exit → Act → World → Prop} (hd : ∀ c, o.op ≠ .defer c) (h : stepC P c o a w fun v w' => K (a.put o.dst v) w') : o.wpIn (Fence.wide.inRound l) k P a w K Q := by
  refine stepE_wpIn hd ?_
  unfold stepC at h
  split at h
  · obtain ⟨v, hv, hk⟩ := h; exact hv.stepE hk
  · obtain ⟨v, hv, hk⟩ := h; exact hv.stepE hk
  · obtain ⟨v, w', hv, hk⟩ := h; exact hv.stepE hk
  · exact h
theorem wpOpsIn_of_N {l k : Nat} {Q : Exit → Act → World → Prop} (hd : ∀ o ∈ ops.toList, ∀ c, o.op ≠ .defer c) : ∀ (li : List Nat) (a : Act) (w : World), wpN P types ops (fun a w => Q .normal a w) li a w → wpOpsIn (Fence.wide.inRound l) k P ops Q li a w
  | [], _, _, h => h
  | i :: li, a, w, h => by
    have h' : stI P types ops i (wpN P types ops (fun a w => Q .normal a w) li) a w := h
    have h2 := stI_mono (fun a' w' hh => wpOpsIn_of_N (l := l) (k := k) hd li a' w' hh) h'
    unfold stI at h2
    simp only [wpOpsIn]
    split
    · rename_i ho
      rw [ho] at h2; exact h2
    · rename_i o ho
      rw [ho] at h2
      have hwa : wantedAt ops o a = Region.wanted o (yielded ops a.tmps) := rfl
      simp only at h2
      split
      · rename_i hw
        rw [if_pos (hwa.trans hw)] at h2
        refine stepC_wpIn (hd o ?_) h2
        have := Array.getElem?_eq_some_iff.1 ho
        rw [← this.2]; simp
      · rename_i hw
        rw [if_neg (fun e => hw (hwa.symm.trans e))] at h2
        exact ⟨fun _ _ => trivial, h2⟩
theorem wpIn_round_orders {id l k : Nat} {Q : Exit → Act → World → Prop} {a : Act} {w : World} {reps : List (List Nat)} (hm : P.follows .mixedOrders = true) (hd : ∀ o ∈ ops.toList, ∀ c, o.op ≠ .defer c) (ho : ordersOf types ops = some reps)
    (h : ∀ rep ∈ reps, wpN P types ops (fun a' w' => Q .normal a' w') rep a { w with drawn := w.drawn + 1 }) : (Code.region id ops true).wpIn (Fence.wide.inRound l) k P Q a w := by
  unfold ordersOf at ho
  split at ho
  · rename_i hok
    simp only [Bool.and_eq_true] at hok
    refine wpIn_region_draw fun t => ?_
    simp only [Region.schedule, hm, Bool.true_or, if_true]
    obtain ⟨li, hl, hp, he⟩ := sched_spec hok.1 t
    rw [hl]
    exact wpOpsIn_of_N hd _ _ _ (reps_sound 12 _ _ ho h li hp (holds_cert hok.1 hok.2 hp he))
  · cases ho
theorem wpIn_round_text {id l k : Nat} {Q : Exit → Act → World → Prop} {a : Act} {w : World} (hd : ∀ o ∈ ops.toList, ∀ c, o.op ≠ .defer c)
    (h : wpN P types ops (fun a' w' => Q .normal a' w') (List.range ops.size) a w) : (Code.region id ops false).wpIn (Fence.wide.inRound l) k P Q a w :=
  wpIn_region (wpOpsIn_of_N hd _ _ _ h)
theorem soundR {G l k : Nat} (hm : P.follows .mixedOrders = true) : ∀ (c : Code) (lc : LCode) (Q : Ex → Env → World → Prop) (a : Act) (ρ : Env) (w : World), plainC c = true → lower types G n c = some lc → Agree G n a ρ → wpL P lc Q ρ w →
    c.wpIn (Fence.wide.inRound l) k P (liftQ G n Q) a w := by
  intro c
  induction c with
  | skip =>
    intro lc Q a ρ w hp hl ha h
    simp only [lower, Option.some.injEq] at hl
    subst hl
    exact wpIn_skip ⟨ρ, ha, h⟩
  | region id ops draw =>
    intro lc Q a ρ w hp hl ha h
    have hd : ∀ o ∈ ops.toList, ∀ c, o.op ≠ .defer c := fun o ho c e => by
      simp only [plainC, List.all_eq_true] at hp
      have := hp o ho
      rw [e] at this
      cases this
    simp only [lower] at hl
    split at hl
    · rename_i hno
      have hdraw : draw = true := by
        cases draw with
        | true => rfl
        | false => simp at hno
      subst hdraw
      unfold lowAny at hl
      split at hl
      · rename_i hok
        split at hl
        · rename_i los hlos
          simp only [Option.some.injEq] at hl
          subst hl
          simp only [wpL] at h
          obtain ⟨hlen, hat⟩ := lowEach_at hlos
          have hlen : los.length = ops.size := by simpa using hlen
          rw [hlen] at h
          simp only [Bool.and_eq_true] at hok
          refine wpIn_region_draw fun t => ?_
          simp only [Region.schedule, hm, Bool.true_or, if_true]
          obtain ⟨li, hl, hpp, he⟩ := sched_spec hok.1 t
          rw [hl]
          refine wpOpsIn_of_N (types := types) hd _ _ _ ?_
          have hD := holds_cert hok.1 hok.2 hpp he
          have hl := hpp
          have hlow := lowOps_any (types := types) (n := n) (G := G) (cert := mkCert ops) (los := los) (fun i hi => hat i i (by simp [hi])) li G (fun i hi => List.mem_range.1 (hl.subset hi)) (fun l1 i l2 he t ht => by
            rcases maskD_bit _ ht with h1 | ⟨j, hj, hb, hd⟩
            · exact .inl h1
            · have hil : i < ops.size := List.mem_range.1 (hl.subset (by rw [he]; simp))
              obtain ⟨r1, r2, e1, e2⟩ := hD i hil j hj hb
              have hnd : li.Nodup := hl.symm.nodup List.nodup_range
              rw [he] at e1 hnd
              have := (split_unique hnd e1).1
              exact .inr ⟨j, by rw [this]; exact e2, hd⟩)
          have h' := h li hl hD
          refine wpN_of_X (P := P) (types := types) (Q := fun a' w' => liftQ G n Q .normal a' w') (fun t => ∃ o ∈ ops.toList, o.dst = some t) (ρ0 := ρ) (G := G)
            (K := fun ρ' w' => Q .nrm (ρ.merge ρ' (outsOf G ops.toList)) w') ?_ ?_ li G _ a ρ _ hlow (fun _ h => h) ha (fun _ _ => rfl) (by simpa [drawnW] using h')
          · intro M a' ρ' w' hGM ha' hD hk
            refine ⟨_, ⟨ha'.1, ha'.2.1, fun t ht => ?_⟩, hk⟩
            rw [merge_at, ha'.2.2 t (hGM t ht)]
            split
            · rfl
            · rename_i hno
              exact hD t fun hx => hno (dst_mem_outs ht hx)
          · intro i o hoi d hd
            have := Array.getElem?_eq_some_iff.1 hoi
            exact ⟨o, by rw [← this.2]; simp, hd⟩
        · cases hl
      · cases hl
    · rename_i reps hreps
      split at hl
      · rename_i ls hls
        simp only [Option.some.injEq] at hl
        subst hl
        simp only [wpL, wpAlts_iff] at h
        have hT : ∀ rep ∈ reps, wpN P types ops (fun a' w' => liftQ G n Q .normal a' w') rep a (drawnW draw w) := by
          intro rep hrep
          obtain ⟨l, hl, hlo⟩ := lowAll_mem hls rep hrep
          refine wpN_of_T (P := P) (types := types) (Q := fun a' w' => liftQ G n Q .normal a' w') (fun t => ∃ o ∈ ops.toList, o.dst = some t) (ρ0 := ρ) (G := G)
            (K := fun ρ' w' => Q .nrm (ρ.merge ρ' (outsOf G ops.toList)) w') ?_ ?_ rep G l a ρ _ hlo (fun _ h => h) ha (fun _ _ => rfl) (h l hl)
          · intro M a' ρ' w' hGM ha' hD hk
            refine ⟨_, ⟨ha'.1, ha'.2.1, fun t ht => ?_⟩, hk⟩
            rw [merge_at, ha'.2.2 t (hGM t ht)]
            split
            · rfl
            · rename_i hno
              exact hD t fun hx => hno (dst_mem_outs ht hx)
          · intro i o hoi d hd
            have := Array.getElem?_eq_some_iff.1 hoi
            exact ⟨o, by rw [← this.2]; simp, hd⟩
        cases draw with
        | true =>
          simp only [if_true] at hreps
          have hreps : ordersOf types ops = some reps := by
            unfold fewOrders at hreps
            split at hreps
            · cases hreps
            split at hreps
            · rename_i r hr
              split at hreps
              · rw [hr]; exact hreps
              · cases hreps
            · cases hreps
          exact wpIn_round_orders hm hd hreps (by simpa [drawnW] using hT)
        | false =>
          simp only [Bool.false_eq_true, if_false, Option.some.injEq] at hreps
          subst hreps
          exact wpIn_round_text (types := types) hd (by simpa [drawnW] using hT)
      · cases hl
  | seq x y ihx ihy =>
    intro lc Q a ρ w hp hl ha h
    simp only [plainC, Bool.and_eq_true] at hp
    simp only [lower] at hl
    split at hl
    · rename_i lx ly hx hy
      simp only [Option.some.injEq] at hl
      subst hl
      simp only [wpL] at h
      exact wpIn_seq (wpIn_mono (ihx _ _ _ _ _ hp.1 hx ha h) (Exit.then_lift fun a' ρ' w' ha' hk => ihy _ _ _ _ _ hp.2 hy ha' hk))
    · cases hl
  | cond c x y ihx ihy =>
    intro lc Q a ρ w hp hl ha h
    simp only [plainC, Bool.and_eq_true] at hp
    simp only [lower] at hl
    split at hl
    · rename_i hr
      split at hl
      · rename_i lx ly hx hy
        simp only [Option.some.injEq] at hl
        subst hl
        simp only [wpL, condS_iff] at h
        obtain ⟨t, h1, h2, h3⟩ := h
        have he : a.eval c = .bool t := (ha.eval hr c (by simp)).trans h1
        exact wpIn_cond_split he (fun e => ihx _ _ _ _ _ hp.1 hx ha (h2 e)) (fun e => ihy _ _ _ _ _ hp.2 hy ha (h3 e))
      · cases hl
    · cases hl
  | block id x ihx =>
    intro lc Q a ρ w hp hl ha h
    simp only [plainC] at hp
    simp only [lower] at hl
    split at hl
    · rename_i lx hx
      simp only [Option.some.injEq] at hl
      subst hl
      simp only [wpL] at h
      refine wpIn_block (wpIn_mono (ihx _ _ _ _ _ hp hx ha h) ?_)
      intro e a' w' hh
      cases e <;> simp only [liftQ, blockK] at hh <;> simp only [Exit.inBlock, liftQ]
      case exit id' =>
        obtain ⟨ρ', h1, h2⟩ := hh
        split <;> rename_i hid <;> simp only [hid, if_true, if_false] at h2 <;> exact ⟨ρ', h1, h2⟩
      all_goals exact hh
    · cases hl
  | exit id =>
    intro lc Q a ρ w hp hl ha h
    simp only [lower, Option.some.injEq] at hl
    subst hl
    exact wpIn_exit ⟨ρ, ha, h⟩
  | ret =>
    intro lc Q a ρ w hp hl ha h
    simp only [lower, Option.some.injEq] at hl
    subst hl
    exact wpIn_ret ⟨ρ, ha, h⟩
  | _ => intro lc Q a ρ w hp hl; simp [plainC] at hp
end
end Go.W
end
