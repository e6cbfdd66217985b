/-
  A part of the proof of this claim's statement (RxW2, TkChk, RxW3, RxW4, RxW5, RxW6, RxW7, RxW8, RxW9, RxWA): plain theorems; no conditions beyond those each names.
-/
import Derived.Test.YtolkjbmcindhjaaGreatPk11
import Derived.Test.YtolkjbmcindhjaaGreatPk10
section
set_option maxRecDepth 100000
set_option linter.unusedSimpArgs false
set_option linter.unusedVariables false
namespace Go.Proofs.YtolkjbmcindhjaaGreat
open Go Go.W Go.Tk Go.Rx
/-- A unary operator in cells. -/
structure Ru where
  u : Un
  nv : Cell1
def ruE (r : Ru) : List Value := [.int .i64 (r.u.op : Nat), .int .i64 (r.u.eff : Nat), .int .i64 (r.u.cost : Nat), .int .i64 (r.u.makes : Nat), r.nv.1]
def nds (rs : List Ru) : List (Cell1 × List Nat) := rs.map fun r => (r.nv, r.u.needs)
/-- A relaxation while it is built. -/
def RlA (b : Nat) (vv gv fv : Value) (vars : List Nat) (uv nd fr : Value) (rs : List Ru) (ps : List (Cell1 × List Nat)) (B : Asr) : Asr :=
  Star (ObjA b (relO vv gv fv vars.sum uv nd fr)) (Star (OwnA fv 3 1 nE (firsts vars vars.length)) (Star (OwnA uv 137 5 ruE rs) (Star (VwsA nE (nds rs)) (Star (OwnA fr 3 1 nE (frF (rs.map (·.u)))) (Star (TabA nd 22 3 nE ps) B)))))
theorem RlA.lcl {b : Nat} {vv gv fv : Value} {vars : List Nat} {uv nd fr : Value} {rs : List Ru} {ps : List (Cell1 × List Nat)} {B : Asr} (hB : Lcl B) : Lcl (RlA b vv gv fv vars uv nd fr rs ps B) :=
  Lcl.obj.star (Lcl.own.star (Lcl.own.star (Lcl.vws.star (Lcl.own.star (Lcl.tab.star hB)))))
def RlI (b : Nat) (vv gv fv : Value) (vars : List Nat) (U : List Un) (w : World) (F : List Nat) (B : Asr) (w' : World) : Prop :=
  ∃ uv nd fr rs ps, rs.map (·.u) = U ∧ ps.map (·.2) = (List.range vars.sum).map (nbF U) ∧ At w F (RlA b vv gv fv vars uv nd fr rs ps B) w'
end Go.Proofs.YtolkjbmcindhjaaGreat
end
section
set_option linter.unusedVariables false
set_option linter.unusedSimpArgs false
namespace Go.Tk
open Go Go.W
theorem prop_len {vars : List Int} {l : List Fa} (hv : ∀ n ∈ vars, 0 ≤ n) (h : propF vars l = true) : l.length ≤ vars.length := by
  have hn : vars = (vars.map Int.toNat).map iN := by
    rw [List.map_map]
    conv => lhs; rw [← List.map_id vars]
    exact List.map_congr_left fun n hn2 => by have := hv n hn2; simp [iN]; omega
  obtain ⟨m, hm, ok⟩ := prop_nat hn h
  have := ok.len
  have := congrArg List.length hm
  simp at *
  omega
theorem chk_good (t : Tk) : chkC t = none ↔ goodB t = true := by
  have hc : ∀ {vars : List Int}, vars.all varB = true → ∀ n ∈ vars, 0 ≤ n := fun h n hn => by
    have := List.all_eq_true.1 h n hn
    simp [varB] at this
    omega
  constructor
  · intro h
    unfold chkC at h
    split at h; · cases h
    rename_i e1
    split at h; · cases h
    rename_i e2
    split at h; · cases h
    rename_i e3
    split at h; · cases h
    rename_i e4
    split at h; · cases h
    rename_i e5
    split at h; · cases h
    rename_i e6
    split at h; · cases h
    rename_i e7
    simp only [Bool.not_eq_true, Bool.not_eq_false] at e1 e2 e3 e4 e5 e6 e7
    unfold largeB at e1
    simp only [Bool.not_eq_false', Bool.and_eq_true, decide_eq_true_eq] at e1
    obtain ⟨⟨⟨l1, l2⟩, l3⟩, l4⟩ := e1
    rw [List.all_eq_true] at l3 e3 e5 e6 e7
    have hg : propF t.vars t.goal = true := e5 (t.gv, t.goal) (by simp [condsL])
    have ho : t.ops.all (opB t.vars) = true := by
      rw [List.all_eq_true]
      intro o ho
      have a1 := e3 o ho
      have a2 := e7 o ho
      have a3 := l3 o ho
      have a4 : propF t.vars o.pre = true := e5 (o.pv, o.pre) (by
        unfold condsL
        exact List.mem_cons_of_mem _ (List.mem_flatMap.2 ⟨o, ho, by simp [condsO]⟩))
      have a5 : o.effs.all (effB t.vars) = true := by
        rw [List.all_eq_true]
        intro e he
        have b1 := List.all_eq_true.1 (e6 o ho) e he
        have b2 : propF t.vars e.cnd = true := e5 (e.wv, e.cnd) (by
          unfold condsL
          exact List.mem_cons_of_mem _ (List.mem_flatMap.2 ⟨o, ho, by
            unfold condsO
            exact List.mem_cons_of_mem _ (List.mem_map.2 ⟨e, he, rfl⟩)⟩))
        simp [effB, b1, b2]
      simp only [Bool.and_eq_true, decide_eq_true_eq] at a1 a3
      simp only [opB, a2, a4, a5, Bool.and_true, Bool.and_eq_true, decide_eq_true_eq]
      exact ⟨a1, a3⟩
    simp only [goodB, e2, e4, hg, ho, Bool.and_true, Bool.and_eq_true, decide_eq_true_eq]
    exact ⟨l1, l2⟩
  · intro h
    unfold goodB at h
    simp only [Bool.and_eq_true, decide_eq_true_eq] at h
    obtain ⟨⟨⟨⟨⟨h1, h2⟩, h3⟩, h4⟩, h5⟩, h6⟩ := h
    have h6' := List.all_eq_true.1 h6
    have hop : ∀ o ∈ t.ops, (0 ≤ o.cost ∧ o.cost ≤ 1048576) ∧ o.effs.length ≤ 64 ∧ nameB o.name = true ∧ propF t.vars o.pre = true ∧ ∀ e ∈ o.effs, propF t.vars e.cnd = true ∧ inR t.vars (e.v, e.x) = true := fun o ho => by
      have := h6' o ho
      unfold opB at this
      simp only [Bool.and_eq_true, decide_eq_true_eq, List.all_eq_true] at this
      obtain ⟨⟨⟨⟨⟨c1, c2⟩, c3⟩, c4⟩, c5⟩, c6⟩ := this
      refine ⟨⟨c1, c2⟩, c3, c4, c5, fun e he => ?_⟩
      have := c6 e he
      unfold effB at this
      simpa only [Bool.and_eq_true] using this
    have hcp : ∀ p ∈ condsL t, propF t.vars p.2 = true := fun p hp => by
      unfold condsL at hp
      rcases List.mem_cons.1 hp with rfl | hp
      · exact h5
      · obtain ⟨o, ho, hp⟩ := List.mem_flatMap.1 hp
        unfold condsO at hp
        rcases List.mem_cons.1 hp with rfl | hp
        · exact (hop o ho).2.2.2.1
        · obtain ⟨e, he, rfl⟩ := List.mem_map.1 hp
          exact ((hop o ho).2.2.2.2 e he).1
    have hl : largeB t = false := by
      unfold largeB
      simp only [Bool.not_eq_false', Bool.and_eq_true, decide_eq_true_eq, List.all_eq_true]
      exact ⟨⟨⟨h1, h2⟩, fun o ho => (hop o ho).2.1⟩, fun p hp => Nat.le_trans (prop_len (hc h3) (hcp p hp)) h1⟩
    have e3 : (t.ops.all fun o => decide (0 ≤ o.cost) && decide (o.cost ≤ 1048576)) = true := by
      rw [List.all_eq_true]
      intro o ho
      have := (hop o ho).1
      simp; omega
    have e5 : ((condsL t).all fun p => propF t.vars p.2) = true := by rw [List.all_eq_true]; exact hcp
    have e6 : (t.ops.all fun o => o.effs.all fun e => inR t.vars (e.v, e.x)) = true := by
      rw [List.all_eq_true]
      intro o ho
      rw [List.all_eq_true]
      exact fun e he => ((hop o ho).2.2.2.2 e he).2
    have e7 : (t.ops.all fun o => nameB o.name) = true := by
      rw [List.all_eq_true]
      exact fun o ho => (hop o ho).2.2.1
    unfold chkC
    rw [if_neg (by rw [hl]; simp), if_neg (by rw [h3]; simp), if_neg (by rw [e3]; simp), if_neg (by rw [h4]; simp), if_neg (by rw [e5]; simp), if_neg (by rw [e6]; simp), if_neg (by rw [e7]; simp)]
/-- A good task's lists are short. -/
theorem NtG.lens {T : Nt} (h : NtG T) (hn : ∀ o ∈ T.ops, o.name.size ≤ 9223372036854775807) : TkL T.raw := by
  have hg := h.goal.len
  refine ⟨by simp [Nt.raw]; have := h.ilen; have := h.vlen; omega, by simp [Nt.raw]; have := h.vlen; omega, by simp [Nt.raw]; have := h.olen; omega, by simp [Nt.raw]; have := h.vlen; omega, fun o ho => ?_⟩
  obtain ⟨o', ho', rfl⟩ := List.mem_map.1 ho
  have g := h.ops o' ho'
  have := g.pre.len
  have := h.vlen
  have := g.elen
  refine ⟨hn o' ho', by simp [No.raw]; omega, by simp [No.raw]; omega, fun e he => ?_⟩
  obtain ⟨e', he', rfl⟩ := List.mem_map.1 he
  have := (g.cnd e' he').len
  simp [Nf.raw]; omega
end Go.Tk
end
section
set_option maxRecDepth 100000
set_option linter.unusedSimpArgs false
set_option linter.unusedVariables false
namespace Go.Proofs.YtolkjbmcindhjaaGreat
open Go Go.W Go.Tk Go.Rx
/-- The costs that a relaxation has. -/
def cst (T : Nt) (cs : List Int) (i : Nat) : Nat := if cs.length = 0 then (match T.ops[i]? with | some o => o.cost | none => 0) else (cs.getD i 0).toNat
def noO (o : No) : Obj := oqO o.raw
theorem RlA.frame {b : Nat} {vv gv fv : Value} {vars : List Nat} {uv nd fr : Value} {rs : List Ru} {ps : List (Cell1 × List Nat)} {X Y : Asr} (h : Imp X Y) : Imp (RlA b vv gv fv vars uv nd fr rs ps X) (RlA b vv gv fv vars uv nd fr rs ps Y) :=
  Imp.un (Imp.un (Imp.un (Imp.un (Imp.un (Imp.un h)))))
/-- The frame of a relaxation: the copies, and the task's variable. -/
def FrA (vv gv : Value) (vars : List Nat) (goal : List Fc) (tb : Nat) (t : Tk) : Asr := Star (OwnA vv 3 1 nE vars) (Star (OwnA gv 100 2 fcE goal) (Star (ObjA tb (tkO t)) Emp))
theorem FrA.lcl {vv gv : Value} {vars : List Nat} {goal : List Fc} {tb : Nat} {t : Tk} : Lcl (FrA vv gv vars goal tb t) := Lcl.own.star (Lcl.own.star (Lcl.obj.star .emp))
theorem RlI.kp0 {b : Nat} {vv gv fv : Value} {vars : List Nat} {U : List Un} {w w1 w2 : World} {F : List Nat} {B : Asr} (hB : Lcl B) (h : RlI b vv gv fv vars U w F B w1) (k : Kp [] w1 w2) : RlI b vv gv fv vars U w F B w2 := by
  obtain ⟨uv, nd, fr, rs, ps, h1, h2, h3⟩ := h
  exact ⟨uv, nd, fr, rs, ps, h1, h2, h3.kp0 (RlA.lcl hB) k⟩
theorem RlI.kp {b : Nat} {vv gv fv : Value} {vars : List Nat} {U : List Un} {w w1 : World} {F : List Nat} {B : Asr} (h : RlI b vv gv fv vars U w F B w1) : Kp F w w1 := by
  obtain ⟨uv, nd, fr, rs, ps, h1, h2, h3⟩ := h
  exact h3.kp
theorem RlI.by {b : Nat} {vv gv fv : Value} {vars : List Nat} {U : List Un} {w w1 : World} {F : List Nat} {B C : Asr} (h : RlI b vv gv fv vars U w F B w1) (i : Imp B C) : RlI b vv gv fv vars U w F C w1 := by
  obtain ⟨uv, nd, fr, rs, ps, h1, h2, h3⟩ := h
  exact ⟨uv, nd, fr, rs, ps, h1, h2, h3.by (RlA.frame i)⟩
theorem RlI.fst {b : Nat} {vv gv fv : Value} {vars : List Nat} {U : List Un} {w w1 : World} {F : List Nat} {B : Asr} (h : RlI b vv gv fv vars U w F B w1) : (∃ uv nd fr, w1.heap[b]? = some (relO vv gv fv vars.sum uv nd fr)) ∧ Vw w1 fv nE (firsts vars vars.length) := by
  obtain ⟨uv, nd, fr, rs, ps, h1, h2, h3⟩ := h
  exact ⟨⟨uv, nd, fr, At.obj h3⟩, (At.own (At.drop h3)).vw⟩
end Go.Proofs.YtolkjbmcindhjaaGreat
end
section
set_option maxRecDepth 100000
set_option linter.unusedSimpArgs false
set_option linter.unusedVariables false
namespace Go.Proofs.YtolkjbmcindhjaaGreat
open Go Go.W Go.Tk Go.Rx
theorem mt_len : mth Tryz.prog 219 "Len" = some (131, false) := by kernel_rfl
theorem mt_less : mth Tryz.prog 219 "Less" = some (289, false) := by kernel_rfl
theorem mt_swap : mth Tryz.prog 219 "Swap" = some (290, false) := by kernel_rfl
theorem mt_pop : mth Tryz.prog 219 "Pop" = some (291, true) := by kernel_rfl
theorem mt_push : mth Tryz.prog 219 "Push" = some (292, true) := by kernel_rfl
theorem mt_un : Tryz.prog.underlying 219 = some (.pointer 217) := by kernel_rfl
theorem mt_ag : tyAgg Tryz.prog 217 = some none := by kernel_rfl
theorem en_len : enterable Tryz.prog 131 = true := by kernel_rfl
theorem en_less : enterable Tryz.prog 289 = true := by kernel_rfl
theorem en_swap : enterable Tryz.prog 290 = true := by kernel_rfl
theorem en_pop : enterable Tryz.prog 291 = true := by kernel_rfl
theorem en_push : enterable Tryz.prog 292 = true := by kernel_rfl
def enE (e : En) : List Value := [.int .i64 (e.1 : Nat), .int .i64 (e.2 : Nat)]
theorem enE_len (e : En) : (enE e).length = 2 := rfl
theorem enE_one (e : En) : (enE e).all oneC = true := rfl
def enV (e : En) : Value := .agg #[.int .i64 (e.1 : Nat), .int .i64 (e.2 : Nat)]
def qO (v : Value) : Obj := .cells #[v] 217 (0, 0)
def hpV (qb : Nat) : Value := .iface 219 (.pointer (some ⟨qb, 0, none⟩))
def QI (qb : Nat) (l : List En) (w : World) (F : List Nat) (B : Asr) (w' : World) : Prop := ∃ sv, At w F (Star (ObjA qb (qO sv)) (Star (OwnA sv 221 2 enE l) B)) w'
theorem rd_q {w : World} {qb : Nat} {v : Value} (h : w.heap[qb]? = some (qO v)) : w.cell? ⟨qb, 0, none⟩ = some v := by
  unfold qO at h
  simp [cell_blk h]
theorem gt_get {l : List En} {i : Nat} (h : i < l.length) : l[i]? = some (gt l i) := by rw [gt_lt h]; exact List.getElem?_eq_getElem h
theorem less_spec {w : World} (sv : Value) (l : List En) (i j : Nat) (hv : Vw w sv enE l) (hi : i < l.length) (hj : j < l.length) :
    Calls Tryz.prog 289 [sv, .int .i64 (i : Nat), .int .i64 (j : Nat)].toArray w fun e w' => ∃ x, e = .returned x ∧ x = .bool (bef (gt l i) (gt l j)) ∧ Kp [] w w' := by
  refine enter Tryz.func289 mixed low289 (Nat.le_of_ble_eq_true rfl) ?_
  simp only [L289]
  have e1 := hv.fld enE_len (gt_get hi) (o := 0) (u := .int .i64 ((gt l i).1 : Nat)) rfl
  have e2 := hv.fld enE_len (gt_get hj) (o := 0) (u := .int .i64 ((gt l j).1 : Nat)) rfl
  simp (disch := omega) [hv.idx, e1, e2]
  exact ⟨rfl, (Kp.refl [] w).drew⟩
theorem len_spec {w : World} (sv : Value) (l : List En) (hv : Vw w sv enE l) :
    Calls Tryz.prog 131 [sv].toArray w fun e w' => ∃ x, e = .returned x ∧ x = .int .i64 (l.length : Nat) ∧ Kp [] w w' := by
  refine enter Tryz.func131 mixed low131 (Nat.le_of_ble_eq_true rfl) ?_
  simp only [L131]
  simp [hv.len]
  exact Kp.refl [] w
theorem swap_spec {w w1 : World} {F : List Nat} {B : Asr} (sv : Value) (l : List En) (i j : Nat) (hB : Lcl B) (h : At w F (Star (OwnA sv 221 2 enE l) B) w1) (hi : i < l.length) (hj : j < l.length) :
    Calls Tryz.prog 290 [sv, .int .i64 (i : Nat), .int .i64 (j : Nat)].toArray w1 fun e w' => ∃ x, e = .returned x ∧ At w F (Star (OwnA sv 221 2 enE (swp l i j)) B) w' := by
  refine enter Tryz.func290 mixed low290 (Nat.le_of_ble_eq_true rfl) ?_
  simp only [L290]
  have h1 := h.drew (Lcl.own.star hB)
  have hO := h1.own
  have c1 := hO.cells enE_len (gt_get hi)
  have c2 := hO.cells enE_len (gt_get hj)
  simp only [enE] at c1 c2
  simp (disch := omega) [hO.idx, c1, c2]
  refine h1.store hB enE_len enE_one hi (x := gt l j) rfl fun w2 h2 => ?_
  have hO2 := h2.own
  have hj2 : (j : Int) < (l.set i (gt l j)).length := by simp; omega
  simp (disch := omega) [hO2.idx]
  refine h2.store hB enE_len enE_one (by simpa using hj) (x := gt l i) rfl fun w3 h3 => ?_
  simp
  exact h3
theorem push_spec {w w1 : World} {F : List Nat} {B : Asr} (qb : Nat) (l : List En) (e : En) (hB : Lcl B) (h : QI qb l w F B w1) (hl : l.length ≤ 1000000) :
    Calls Tryz.prog 292 [.pointer (some ⟨qb, 0, none⟩), .iface 221 (enV e)].toArray w1 fun x w' => ∃ y, x = .returned y ∧ QI qb (l ++ [e]) w F B w' := by
  obtain ⟨sv, h1⟩ := h
  refine enter Tryz.func292 mixed low292 (Nat.le_of_ble_eq_true rfl) ?_
  simp only [L292]
  obtain ⟨eb, heb⟩ : ∃ eb, eb = w1.heap.size := ⟨_, rfl⟩
  have hL1 : Lcl (Star (ObjA qb (qO sv)) (Star (OwnA sv 221 2 enE l) B)) := Lcl.obj.star (Lcl.own.star hB)
  have h2 : At w F (Star (ObjA eb (.cells #[.int .i64 0, .int .i64 0] 221 (0, 0))) (Star (ObjA qb (qO sv)) (Star (OwnA sv 221 2 enE l) B))) (w1.alloc (.cells #[.int .i64 0, .int .i64 0] 221 (0, 0))) := by rw [heb]; exact h1.alloc _ hL1
  simp [enV, ← heb]
  refine h2.st hL1 (by simp) (by simp) fun w3 h3 => ?_
  have hq := rd_q h3.drop.obj
  have he := h3.obj
  have ce : cellsAt w3 ⟨w1.heap.size, 0, none⟩ 0 2 = some [.int .i64 (e.1 : Nat), .int .i64 (e.2 : Nat)] := by
    rw [← heb]
    simp at he
    simp [cellsAt, Addr.add, cell_blk he]
  have h4 := h3.drop.drew hL1
  have h5 := (h4.by Imp.sw).kp0 (Lcl.own.star (Lcl.obj.star hB)) ((Kp.refl [] _).alloc (.cells #[.int .i64 (e.1 : Nat), .int .i64 (e.2 : Nat)] 221))
  simp [hq, ce, rowOf]
  refine At.append (xs := [e]) (Lcl.obj.star hB) h5 enE_len enE_one sl_217 rfl (fun j u hj => ?_) (by omega) (by unfold maxLen; omega) fun v' w6 h6 => ?_
  · rw [show w3.heap.size = w3.drew.heap.size from rfl, add_none, cell_blk alloc_new]
    simpa [enE] using hj
  have c6 := h6.own.c1
  have o6 := h6.own.o1
  have h7 := h6.by Imp.sw
  unfold qO at h7
  simp [c6]
  refine h7.st (Lcl.own.star hB) (by simp) (by simp [o6]) fun w8 h8 => ?_
  simp
  exact ⟨v', by unfold qO; simpa using h8⟩
theorem pop_spec {w w1 : World} {F : List Nat} {B : Asr} (qb : Nat) (l : List En) (e : En) (hB : Lcl B) (h : QI qb (l ++ [e]) w F B w1) (hl : l.length ≤ 1000000) :
    Calls Tryz.prog 291 [.pointer (some ⟨qb, 0, none⟩)].toArray w1 fun x w' => ∃ y, x = .returned y ∧ y = .iface 221 (enV e) ∧ QI qb l w F B w' := by
  obtain ⟨sv, h1⟩ := h
  refine enter Tryz.func291 mixed low291 (Nat.le_of_ble_eq_true rfl) ?_
  simp only [L291]
  have hq := rd_q h1.obj
  have hO := h1.drop.own
  have hi : (l ++ [e])[l.length]? = some e := by simp
  have ec := hO.cells enE_len hi
  simp only [enE] at ec
  have hlen : ((l ++ [e]).length : Int) = (l.length : Int) + 1 := by simp
  have hidx : (l.length : Int) < (l ++ [e]).length := by simp; omega
  obtain ⟨eb, heb⟩ : ∃ eb, eb = w1.heap.size := ⟨_, rfl⟩
  have hL1 : Lcl (Star (ObjA qb (qO sv)) (Star (OwnA sv 221 2 enE (l ++ [e])) B)) := Lcl.obj.star (Lcl.own.star hB)
  have h2 : At w F (Star (ObjA eb (.cells #[.int .i64 0, .int .i64 0] 221 (0, 0))) (Star (ObjA qb (qO sv)) (Star (OwnA sv 221 2 enE (l ++ [e])) B))) (w1.alloc (.cells #[.int .i64 0, .int .i64 0] 221 (0, 0))) := by rw [heb]; exact h1.alloc _ hL1
  simp (disch := omega) [hq, hO.vw.len, hlen, wrap_i64, hO.idx, hidx, ec, ← heb]
  refine h2.st hL1 (by simp) (by simp) fun w3 h3 => ?_
  have he := h3.obj
  have h4 := h3.by Imp.fr3
  have hO4 := h4.own
  simp (disch := omega) [hO4.vw.len, hlen, wrap_i64]
  refine hO4.slice_hi enE_len sl_217 (by simp) fun v' hv' hown => ?_
  have htk : (l ++ [e]).take l.length = l := by simp
  rw [htk] at hv'
  have h5 : At w F (Star (OwnA v' 221 2 enE l) (Star (ObjA eb _) (Star (ObjA qb (qO sv)) B))) w3 := h4.step (w2 := w3) Lcl.own (Lcl.obj.star (Lcl.obj.star hB)) (fun Fa ⟨_, hFa⟩ => ⟨v'.own, ⟨hv', rfl⟩, Kp.refl _ _, fun x hx => .inl (by rw [hFa, ← hown]; exact hx)⟩)
  have c5 := hv'.c1
  have o5 := hv'.o1
  have h6 := h5.by Imp.fr3
  unfold qO at h6
  simp [c5]
  refine h6.st (Lcl.own.star (Lcl.obj.star hB)) (by simp) (by simp [o5]) fun w7 h7 => ?_
  have he7 := h7.drop.drop.obj
  have ce : cellsAt w7 ⟨w1.heap.size, 0, none⟩ 0 2 = some [.int .i64 (e.1 : Nat), .int .i64 (e.2 : Nat)] := by
    rw [← heb]
    simp at he7
    simp [cellsAt, Addr.add, cell_blk he7]
  simp [ce, enV]
  exact ⟨v', (by unfold qO; simpa using h7.by (Imp.un (Imp.un Imp.dr)))⟩
theorem hUp_spec {w w1 : World} {F : List Nat} {B : Asr} (qb : Nat) (l : List En) (j : Nat) (hB : Lcl B) (h : QI qb l w F B w1) (hl : l.length ≤ 1000000) (hj : j < l.length) :
    Calls Tryz.prog 185 [hpV qb, .int .i64 (j : Nat)].toArray w1 fun x w' => ∃ y, x = .returned y ∧ QI qb (upL l j) w F B w' := by
  refine enter Tryz.func185 mixed low185 (Nat.le_of_ble_eq_true rfl) ?_
  simp only [L185]
  refine loop_inv (fun n ρ w' => ∃ l' j', j' = n ∧ upL l j = upL l' j' ∧ l'.length = l.length ∧ j' < l.length ∧ ρ 0 = hpV qb ∧ ρ 1 = .int .i64 (j' : Nat) ∧ QI qb l' w F B w') j ⟨l, j, rfl, rfl, rfl, hj, by simp, by simp, h⟩ ?_
  rintro n ρ w2 ⟨l', j', rfl, hup, hl', hj', g0, g1, sv, h2⟩
  have hq := rd_q h2.obj
  have hV := h2.drop.own.vw
  have hL2 : Lcl (Star (ObjA qb (qO sv)) (Star (OwnA sv 221 2 enE l') B)) := Lcl.obj.star (Lcl.own.star hB)
  by_cases hz : j' = 0
  · subst hz
    have ew : IntKind.i64.wrap (-1) = -1 := wrap_i64 (by omega) (by omega)
    have eq : (-1 : Int).tdiv 2 = 0 := by decide
    have e0 : IntKind.i64.wrap 0 = 0 := wrap_i64 (by omega) (by omega)
    conv at hup => rhs; rw [upL, dif_pos rfl]
    simp [g0, g1, ew, eq, e0]
    rw [hup]
    exact ⟨sv, h2⟩
  obtain ⟨p, hp⟩ : ∃ p, p = (j' - 1) / 2 := ⟨_, rfl⟩
  have ew : IntKind.i64.wrap ((j' : Int) - 1) = (j' : Int) - 1 := wrap_i64 (by omega) (by omega)
  have eq : ((j' : Int) - 1).tdiv 2 = (p : Int) := by rw [Int.tdiv_eq_ediv_of_nonneg (by omega)]; omega
  have ep : IntKind.i64.wrap (p : Int) = p := wrap_i64 (by omega) (by omega)
  have hne : ((p : Int) == (j' : Int)) = false := by simp; omega
  simp [g0, g1, ew, eq, ep, hne, hpV, iv_v mt_less mt_un mt_ag en_less hq]
  refine cl_of (less_spec sv l' j' p hV (by omega) (by omega)) ?_
  rintro _ w3 ⟨rfl, k3⟩
  have h3 := h2.kp0 hL2 k3
  conv at hup => rhs; rw [upL, dif_neg hz, ← hp]
  cases hb : bef (gt l' j') (gt l' p) with
  | false =>
    rw [hb] at hup
    simp at hup
    simp [hne]
    rw [hup]
    exact ⟨sv, h3⟩
  | true =>
    rw [hb] at hup
    simp at hup
    have hq3 := rd_q h3.obj
    simp [hne, g0, g1, hpV, iv_v mt_swap mt_un mt_ag en_swap hq3]
    refine cl_of (swap_spec sv l' p j' (Lcl.obj.star hB) (h3.by Imp.sw) (by omega) (by omega)) ?_
    rintro _ w4 h4
    simp
    have hc : swp l' p j' = swp l' j' p := by
      unfold swp
      exact (List.set_comm _ _ (by omega)).symm
    rw [hc] at h4
    exact ⟨p, by omega, swp l' j' p, hup, by simp [hl'], by omega, by simpa [hpV] using g0, rfl, sv, h4.by Imp.sw⟩
/-- Down in a list with one more entry behind it. -/
theorem gt_app {l : List En} {x : En} {i : Nat} (h : i < l.length) : gt (l ++ [x]) i = gt l i := by
  rw [gt_lt (by simp; omega), gt_lt h, List.getElem_append_left h]
theorem swp_app {l : List En} {x : En} {i p : Nat} (hi : i < l.length) (hp : p < l.length) : swp (l ++ [x]) i p = swp l i p ++ [x] := by
  unfold swp
  rw [gt_app hi, gt_app hp, List.set_append_left _ _ hi, List.set_append_left _ _ (by simpa using hp)]
theorem hDown_spec {w w1 : World} {F : List Nat} {B : Asr} (qb : Nat) (l : List En) (x : En) (hB : Lcl B) (h : QI qb (l ++ [x]) w F B w1) (hl : l.length ≤ 1000000) :
    Calls Tryz.prog 186 [hpV qb, .int .i64 0, .int .i64 (l.length : Nat)].toArray w1 fun r w' => ∃ y, r = .returned y ∧ QI qb (downL l 0 ++ [x]) w F B w' := by
  refine enter Tryz.func186 mixed low186 (Nat.le_of_ble_eq_true rfl) ?_
  simp only [L186]
  simp
  refine loop_inv (fun n ρ w' => ∃ l' i', n = l.length - i' ∧ downL l 0 = downL l' i' ∧ l'.length = l.length ∧ i' ≤ l.length ∧ ρ 0 = hpV qb ∧ ρ 1 = .int .i64 0 ∧ ρ 2 = .int .i64 (l.length : Nat) ∧ ρ 7 = .int .i64 (i' : Nat) ∧ QI qb (l' ++ [x]) w F B w') l.length ⟨l, 0, rfl, rfl, rfl, by omega, by simp, by simp, by simp, by simp, h⟩ ?_
  rintro n ρ w2 ⟨l', i', rfl, hdn, hl', hi', g0, g1, g2, g7, sv, h2⟩
  have hq := rd_q h2.obj
  have hV := h2.drop.own.vw
  have hL2 : Lcl (Star (ObjA qb (qO sv)) (Star (OwnA sv 221 2 enE (l' ++ [x])) B)) := Lcl.obj.star (Lcl.own.star hB)
  obtain ⟨d, hd⟩ : ∃ d, d = 2 * i' := ⟨_, rfl⟩
  have e1 : (2 : Int) * i' = (d : Int) := by omega
  have w1 : IntKind.i64.wrap (d : Int) = (d : Int) := wrap_i64 (by omega) (by omega)
  obtain ⟨j1, hj1⟩ : ∃ j1, j1 = 2 * i' + 1 := ⟨_, rfl⟩
  have e2 : (d : Int) + 1 = (j1 : Int) := by omega
  have w2' : IntKind.i64.wrap (j1 : Int) = j1 := wrap_i64 (by omega) (by omega)
  obtain ⟨j2, hj2⟩ : ∃ j2, j2 = j1 + 1 := ⟨_, rfl⟩
  have e3 : (j1 : Int) + 1 = (j2 : Int) := by omega
  have w3' : IntKind.i64.wrap (j2 : Int) = j2 := wrap_i64 (by omega) (by omega)
  by_cases hend : l.length ≤ j1
  · have hend' : (l.length : Int) ≤ j1 := by omega
    conv at hdn => rhs; rw [downL, dif_pos (show l'.length ≤ 2 * i' + 1 by omega)]
    simp [g0, g1, g2, g7, e1, w1, e2, w2', hend, hend']
    rw [hdn]
    exact ⟨sv, h2⟩
  have hend' : ¬ (l.length : Int) ≤ j1 := by omega
  have hneg : ¬ (j1 : Int) < 0 := by omega
  conv at hdn => rhs; rw [downL, dif_neg (show ¬ l'.length ≤ 2 * i' + 1 by omega)]
  obtain ⟨kd, hkd⟩ : ∃ kd, kd = kid l' i' := ⟨_, rfl⟩
  obtain ⟨hk1, hk2, hk3⟩ := kid_le (l := l') (i := i') (by omega)
  rw [← hkd] at hk1 hk2 hk3 hdn
  -- the lesser child
  refine seq_cut (fun ρ w' => ρ 0 = hpV qb ∧ ρ 1 = .int .i64 0 ∧ ρ 2 = .int .i64 (l.length : Nat) ∧ ρ 7 = .int .i64 (i' : Nat) ∧ ρ 8 = .int .i64 (j1 : Nat) ∧ w' = w2) ?_ ?_
  · simp [g0, g1, g2, g7, e1, w1, e2, w2']
  rintro ρ w2 ⟨g0, g1, g2, g7, g8, rfl⟩
  refine seq_cut (fun ρ w' => ρ 0 = hpV qb ∧ ρ 1 = .int .i64 0 ∧ ρ 2 = .int .i64 (l.length : Nat) ∧ ρ 7 = .int .i64 (i' : Nat) ∧ ρ 8 = .int .i64 (j1 : Nat) ∧ w' = w2) ?_ ?_
  · simp [g0, g1, g2, g7, g8, hend, hend', hneg]
  clear g0 g1 g2 g7 g8
  rintro ρ w2 ⟨g0, g1, g2, g7, g8, rfl⟩
  refine seq_cut (fun ρ w' => ρ 0 = hpV qb ∧ ρ 1 = .int .i64 0 ∧ ρ 2 = .int .i64 (l.length : Nat) ∧ ρ 7 = .int .i64 (i' : Nat) ∧ ρ 8 = .int .i64 (j1 : Nat) ∧ ρ 9 = .int .i64 (j1 : Nat) ∧ w' = w2) ?_ ?_
  · simp [g0, g1, g2, g7, g8]
  clear g0 g1 g2 g7 g8
  rintro ρ w2 ⟨g0, g1, g2, g7, g8, g9, rfl⟩
  refine seq_cut (fun ρ w' => ρ 0 = hpV qb ∧ ρ 1 = .int .i64 0 ∧ ρ 2 = .int .i64 (l.length : Nat) ∧ ρ 7 = .int .i64 (i' : Nat) ∧ ρ 9 = .int .i64 (kd : Nat) ∧ At w F (Star (ObjA qb (qO sv)) (Star (OwnA sv 221 2 enE (l' ++ [x])) B)) w') ?_ ?_
  · by_cases t : j2 < l.length
    · have t' : (j2 : Int) < l.length := by omega
      simp [g0, g1, g2, g7, g8, g9, e3, w3', t, t', hpV, iv_v mt_less mt_un mt_ag en_less hq]
      refine cl_of (less_spec sv (l' ++ [x]) j2 j1 hV (by simp; omega) (by simp; omega)) ?_
      rintro _ w3 ⟨rfl, k3⟩
      have h3 := h2.kp0 hL2 k3
      rw [gt_app (by omega), gt_app (by omega)]
      cases hb : bef (gt l' j2) (gt l' j1) with
      | true =>
        have : kd = j2 := by
          rw [hkd]; unfold kid
          rw [if_pos ⟨by omega, by rw [show 2 * i' + 2 = j2 by omega, show 2 * i' + 1 = j1 by omega]; exact hb⟩]
          omega
        simp [t, g0, g1, g2, g7, hpV, this]
        exact h3
      | false =>
        have : kd = j1 := by
          rw [hkd]; unfold kid
          rw [if_neg (fun h => by rw [show 2 * i' + 2 = j2 by omega, show 2 * i' + 1 = j1 by omega, hb] at h; exact absurd h.2 (by simp))]
          omega
        simp [t, g0, g1, g2, g7, g9, hpV, this]
        exact h3
    · have t' : ¬ (j2 : Int) < l.length := by omega
      have : kd = j1 := by
        rw [hkd]; unfold kid
        rw [if_neg (fun h => by omega)]
        omega
      simp [g0, g1, g2, g7, g8, g9, e3, w3', t, t', this]
      exact h2
  clear g0 g1 g2 g7 g8 g9
  rintro ρ w3 ⟨g0, g1, g2, g7, g9, h3⟩
  have hq3 := rd_q h3.obj
  have hV3 := h3.drop.own.vw
  simp [g0, g7, g9, hpV, iv_v mt_less mt_un mt_ag en_less hq3]
  refine cl_of (less_spec sv (l' ++ [x]) kd i' hV3 (by simp; omega) (by simp; omega)) ?_
  rintro _ w4 ⟨rfl, k4⟩
  have h4 := h3.kp0 hL2 k4
  rw [gt_app (by omega), gt_app (by omega)]
  cases hb : bef (gt l' kd) (gt l' i') with
  | false =>
    rw [hb] at hdn
    simp at hdn
    simp [g7, g1]
    rw [hdn]
    exact ⟨sv, h4⟩
  | true =>
    rw [hb] at hdn
    simp at hdn
    have hq4 := rd_q h4.obj
    simp [g0, g7, g9, hpV, iv_v mt_swap mt_un mt_ag en_swap hq4]
    refine cl_of (swap_spec sv (l' ++ [x]) i' kd (Lcl.obj.star hB) (h4.by Imp.sw) (by simp; omega) (by simp; omega)) ?_
    rintro _ w5 h5
    rw [swp_app (by omega) (by omega)] at h5
    simp [g9]
    exact ⟨l.length - kd, by omega, swp l' i' kd, kd, rfl, hdn, by simp [hl'], by omega, by simp [g0, hpV], g1, g2, rfl, sv, h5.by Imp.sw⟩
theorem hPush_spec {w w1 : World} {F : List Nat} {B : Asr} (qb : Nat) (l : List En) (e : En) (hB : Lcl B) (h : QI qb l w F B w1) (hl : l.length ≤ 900000) :
    Calls Tryz.prog 130 [hpV qb, .iface 221 (enV e)].toArray w1 fun x w' => ∃ y, x = .returned y ∧ QI qb (upL (l ++ [e]) l.length) w F B w' := by
  refine enter Tryz.func130 mixed low130 (Nat.le_of_ble_eq_true rfl) ?_
  simp only [L130]
  simp [hpV, iv_p mt_push mt_un en_push]
  refine cl_of (push_spec qb l e hB h (by omega)) ?_
  rintro _ w2 ⟨sv, h2⟩
  have hL2 : Lcl (Star (ObjA qb (qO sv)) (Star (OwnA sv 221 2 enE (l ++ [e])) B)) := Lcl.obj.star (Lcl.own.star hB)
  simp [hpV, iv_v mt_len mt_un mt_ag en_len (rd_q h2.obj)]
  refine cl_of (len_spec sv (l ++ [e]) h2.drop.own.vw) ?_
  rintro _ w3 ⟨rfl, k3⟩
  have h3 := h2.kp0 hL2 k3
  have e1 : ((l ++ [e]).length : Int) - 1 = (l.length : Int) := by simp
  simp only [run_mk]
  simp (disch := omega) [e1, wrap_i64]
  refine cl_of (hUp_spec qb (l ++ [e]) l.length hB ⟨sv, h3⟩ (by simp; omega) (by simp)) ?_
  rintro _ w4 h4
  simp
  exact h4
theorem hPop_spec {w w1 : World} {F : List Nat} {B : Asr} (qb : Nat) (l : List En) (e : En) (hB : Lcl B) (h : QI qb (e :: l) w F B w1) (hl : l.length ≤ 900000) :
    Calls Tryz.prog 132 [hpV qb].toArray w1 fun x w' => ∃ y, x = .returned y ∧ y = .iface 221 (enV e) ∧ QI qb (downL (topL (e :: l)) 0) w F B w' := by
  obtain ⟨sv, h1⟩ := h
  refine enter Tryz.func132 mixed low132 (Nat.le_of_ble_eq_true rfl) ?_
  simp only [L132]
  have hL1 : ∀ l', Lcl (Star (ObjA qb (qO sv)) (Star (OwnA sv 221 2 enE l') B)) := fun l' => Lcl.obj.star (Lcl.own.star hB)
  simp [hpV, iv_v mt_len mt_un mt_ag en_len (rd_q h1.obj)]
  refine cl_of (len_spec sv (e :: l) h1.drop.own.vw) ?_
  rintro _ w2 ⟨rfl, k2⟩
  have h2 := h1.kp0 (hL1 _) k2
  have e1 : ((e :: l).length : Int) - 1 = (l.length : Int) := by simp
  simp only [run_mk]
  simp (disch := omega) [e1, wrap_i64, iv_v mt_swap mt_un mt_ag en_swap (rd_q h2.obj)]
  refine cl_of (swap_spec sv (e :: l) 0 l.length (Lcl.obj.star hB) (h2.by Imp.sw) (by simp) (by simp)) ?_
  rintro _ w3 h3
  have est : swp (e :: l) 0 l.length = topL (e :: l) ++ [e] := by
    have := swp_top (l := e :: l) (by simp)
    simpa [gt] using this
  rw [est] at h3
  have htl : (topL (e :: l)).length = l.length := by rw [topL_len]; simp
  simp
  have hd := hDown_spec qb (topL (e :: l)) e hB ⟨sv, h3.by Imp.sw⟩ (by omega)
  rw [htl] at hd
  refine cl_of hd ?_
  rintro _ w4 h4
  simp [iv_p mt_pop mt_un en_pop]
  refine cl_of (pop_spec qb (downL (topL (e :: l)) 0) e hB h4 ?_) ?_
  · rw [downL_len _ 0 _ (Nat.le_refl _)]; omega
  rintro _ w5 ⟨rfl, h5⟩
  simp
  exact h5
end Go.Proofs.YtolkjbmcindhjaaGreat
end
section
set_option maxRecDepth 100000
set_option linter.unusedSimpArgs false
set_option linter.unusedVariables false
namespace Go.Proofs.YtolkjbmcindhjaaGreat
open Go Go.W Go.Tk Go.Rx
/-- A relaxation that can be read. -/
structure RlR (b : Nat) (vars : List Nat) (goal : List Fc) (U : List Un) (vv gv fv uv nd fr : Value) (rs : List Ru) (ps : List (Cell1 × List Nat)) (w : World) : Prop where
  obj : w.heap[b]? = some (.cells #[vv, .slice none 0 0, gv, .slice none 0 0, fv, .int .i64 (vars.sum : Nat), uv, nd, fr] 133 (0, 0))
  vvw : Vw w vv nE vars
  gvw : Vw w gv fcE goal
  first : Vw w fv nE (firsts vars vars.length)
  un : Vw w uv ruE rs
  needs : ∀ r ∈ rs, Vw w r.nv.1 nE r.u.needs
  free : Vw w fr nE (frF U)
  needed : Vw w nd sv1 ps
  rows : ∀ p ∈ ps, Vw w p.1.1 nE p.2
  eu : rs.map (·.u) = U
  ep : ps.map (·.2) = (List.range vars.sum).map (nbF U)
theorem RlR.kp {b : Nat} {vars : List Nat} {goal : List Fc} {U : List Un} {vv gv fv uv nd fr : Value} {rs : List Ru} {ps : List (Cell1 × List Nat)} {w w' : World} (h : RlR b vars goal U vv gv fv uv nd fr rs ps w) (k : Kp [] w w') : RlR b vars goal U vv gv fv uv nd fr rs ps w' :=
  ⟨k.blk h.obj (by simp), h.vvw.kp0 k, h.gvw.kp0 k, h.first.kp0 k, h.un.kp0 k, fun r hr => (h.needs r hr).kp0 k, h.free.kp0 k, h.needed.kp0 k, fun p hp => (h.rows p hp).kp0 k, h.eu, h.ep⟩
theorem RlI.rd {b : Nat} {vv gv fv : Value} {vars : List Nat} {goal : List Fc} {U : List Un} {w w1 : World} {F : List Nat} {tb : Nat} {t : Tk} (h : RlI b vv gv fv vars U w F (FrA vv gv vars goal tb t) w1) : ∃ uv nd fr rs ps, RlR b vars goal U vv gv fv uv nd fr rs ps w1 := by
  obtain ⟨uv, nd, fr, rs, ps, h1, h2, h3⟩ := h
  have hf := At.drop (At.drop (At.drop (At.drop (At.drop (At.drop h3)))))
  have ht := At.drop (At.drop (At.drop (At.drop (At.drop h3))))
  have hfree := (At.own (At.drop (At.drop (At.drop (At.drop h3))))).vw
  rw [h1] at hfree
  refine ⟨uv, nd, fr, rs, ps, At.obj h3, (At.own hf).vw, (At.own (At.drop hf)).vw, (At.own (At.drop h3)).vw, (At.own (At.drop (At.drop h3))).vw, fun r hr => ?_, hfree, (TabA.own ht).vw, fun p hp => ?_, h1, h2⟩
  · exact (At.drop (At.drop (At.drop h3))).vws (p := (r.nv, r.u.needs)) (List.mem_map.2 ⟨r, hr, rfl⟩)
  · obtain ⟨i, hi, rfl⟩ := List.getElem_of_mem hp
    exact (TabA.row ht (List.getElem?_eq_getElem hi)).vw
/-- Lists as functions. -/
def tabN (N : Nat) (g : Nat → Nat) : List Nat := (List.range N).map g
theorem tabN_len (N : Nat) (g : Nat → Nat) : (tabN N g).length = N := by simp [tabN]
theorem tabN_at {N k : Nat} {g : Nat → Nat} (h : k < N) : (tabN N g)[k]? = some (g k) := by simp [tabN, h]
theorem tabN_set {N k x : Nat} {g : Nat → Nat} (h : k < N) : (tabN N g).set k x = tabN N (updN g k x) := by
  unfold tabN
  apply List.ext_getElem
  · simp
  · intro i h1 h2
    rw [List.getElem_set]
    by_cases e : k = i
    · subst e; simp
    · rw [if_neg e]; simp [updN_ne (Ne.symm e)]
theorem tabN_congr {N : Nat} {f g : Nat → Nat} (h : ∀ i, i < N → f i = g i) : tabN N f = tabN N g := List.map_congr_left fun i hi => h i (List.mem_range.1 hi)
def oO (v : Value) : Obj := .cells #[v] 22 (0, 0)
/-- The values and the heap. -/
def VI (ob qb N : Nat) (out : Nat → Nat) (l : List En) (w : World) (F : List Nat) (B : Asr) (w' : World) : Prop :=
  ∃ ov sv, At w F (Star (ObjA qb (qO sv)) (Star (OwnA sv 221 2 enE l) (Star (ObjA ob (oO ov)) (Star (OwnA ov 3 1 nE (tabN N out)) B)))) w'
theorem VI.kp0 {ob qb N : Nat} {out : Nat → Nat} {l : List En} {w w1 w2 : World} {F : List Nat} {B : Asr} (hB : Lcl B) (h : VI ob qb N out l w F B w1) (k : Kp [] w1 w2) : VI ob qb N out l w F B w2 := by
  obtain ⟨ov, sv, h⟩ := h
  exact ⟨ov, sv, h.kp0 (Lcl.obj.star (Lcl.own.star (Lcl.obj.star (Lcl.own.star hB)))) k⟩
theorem VI.by {ob qb N : Nat} {out : Nat → Nat} {l : List En} {w w1 : World} {F : List Nat} {B C : Asr} (h : VI ob qb N out l w F B w1) (i : Imp B C) : VI ob qb N out l w F C w1 := by
  obtain ⟨ov, sv, h⟩ := h
  exact ⟨ov, sv, h.by (Imp.un (Imp.un (Imp.un (Imp.un i))))⟩
theorem VI.kp {ob qb N : Nat} {out : Nat → Nat} {l : List En} {w w1 : World} {F : List Nat} {B : Asr} (h : VI ob qb N out l w F B w1) : Kp F w w1 := by
  obtain ⟨ov, sv, h⟩ := h
  exact h.kp
end Go.Proofs.YtolkjbmcindhjaaGreat
end
section
set_option maxRecDepth 100000
set_option linter.unusedSimpArgs false
set_option linter.unusedVariables false
namespace Go.Proofs.YtolkjbmcindhjaaGreat
open Go Go.W Go.Tk Go.Rx Go.Maps
def intV (k : Int) : Value := .int .i64 k
def zok (z : Int) : Prop := -9223372036854775808 ≤ z ∧ z ≤ 9223372036854775807
theorem wf_int {z : Int} (h : zok z) : (Lit.int .i64 z).wf = true := by
  have h1 : IntKind.i64.min = -9223372036854775808 := rfl
  have h2 : IntKind.i64.max = 9223372036854775807 := rfl
  unfold zok at h
  simp only [Lit.wf, Bool.and_eq_true, decide_eq_true_eq]
  omega
theorem keyI : KeyEnc Tryz.prog 3 intV zok := {
  keyed := int_keyed Tryz.underlying3
  lit := fun d hd => ⟨_, keyOf_int_mk Tryz.underlying3 (wf_int hd)⟩
  inj := fun x y h => by
    injection h with _ h }
theorem zbool (w : World) : (zeroValue 4).run Tryz.prog w = .ok (.bool false) w := Tryz.zeroValue4 w
/-- The operators that are left out, as a map or none. -/
def LkP (w : World) (wv : Value) (ok : Nat → Bool) : Prop :=
  (wv = .map none ∧ ∀ i, ok i = true) ∨ ∃ mb M, wv = .map (some mb) ∧ MapM w mb intV Value.bool zok M ∧ ∀ i : Nat, i ≤ 100000 → ((getM M (i : Int)).map Value.bool).getD (.bool false) = .bool (!(ok i))
theorem LkP.kp {w w' : World} {wv : Value} {ok : Nat → Bool} (h : LkP w wv ok) (k : Kp [] w w') : LkP w' wv ok := by
  rcases h with h | ⟨mb, M, h1, h2, h3⟩
  · exact .inl h
  · exact .inr ⟨mb, M, h1, h2.kp k (by simp), h3⟩
theorem LkP.look {w : World} {wv : Value} {ok : Nat → Bool} {i : Nat} {K : Kont Value} (h : LkP w wv ok) (hi : i ≤ 100000) (H : K.run (.bool (!(ok i)))) : @rdH Tryz.prog (Instr.lookup 147 wv (.int .i64 (i : Nat)) false) w K := by
  rcases h with ⟨rfl, h⟩ | ⟨mb, M, rfl, h2, h3⟩
  · rw [h i] at H
    exact look_nil (x := (i : Int)) keyI Tryz.underlying147 zbool (by unfold zok; omega) H
  · refine h2.look1 (x := (i : Int)) keyI Tryz.underlying147 zbool (by unfold zok; omega) ?_
    rw [h3 i hi]
    exact H
structure UnOk (U : List Un) (N : Nat) : Prop where
  nod : ∀ u ∈ U, u.needs.Nodup
  rng : ∀ u ∈ U, ∀ n ∈ u.needs, n < N
  made : ∀ u ∈ U, u.makes < N
  cost : ∀ u ∈ U, u.cost ≤ 1048576
  op : ∀ u ∈ U, u.op ≤ 4096
def bE (b : Bool) : List Value := [.bool b]
theorem bE_len (b : Bool) : (bE b).length = 1 := rfl
theorem bE_one (b : Bool) : (bE b).all oneC = true := rfl
/-- A cell behind the values is written. -/
theorem VI.store {α : Type} {enc : α → List Value} {E ob qb N : Nat} {out : Nat → Nat} {l : List En} {w w1 : World} {F : List Nat} {B : Asr} {v : Value} {xs : List α} {KW : Kont World} {k : Nat} {x : α} {cs : List Value} (hB : Lcl B) (h : VI ob qb N out l w F (Star (OwnA v E 1 enc xs) B) w1)
    (he : ∀ x, (enc x).length = 1) (h1 : ∀ x, (enc x).all oneC = true) (hk : k < xs.length) (hcs : cs = enc x) (H : ∀ w2, VI ob qb N out l w F (Star (OwnA v E 1 enc (xs.set k x)) B) w2 → KW.run w2) : @stJ w1 ⟨v.blk, k, none⟩ cs KW := by
  obtain ⟨ov, sv, h⟩ := h
  exact (h.by Imp.fr5).store1 (Lcl.obj.star (Lcl.own.star (Lcl.obj.star (Lcl.own.star hB)))) he h1 hk hcs fun w2 h2 => H w2 ⟨ov, sv, h2.by Imp.bk5⟩
/-- Filled up to a place. -/
def upto (k : Nat) (g : Nat → Nat) (d : Nat) : Nat → Nat := fun j => if j < k then g j else d
theorem upto_succ (k : Nat) (g : Nat → Nat) (d : Nat) : updN (upto k g d) k (g k) = upto (k + 1) g d := by
  funext j
  by_cases e : j = k
  · subst e; simp [upto]
  · rw [updN_ne e]; unfold upto
    by_cases h : j < k
    · rw [if_pos h, if_pos (by omega)]
    · rw [if_neg h, if_neg (by omega)]
theorem upto_all (N : Nat) (g : Nat → Nat) (d : Nat) : tabN N (upto N g d) = tabN N g := tabN_congr fun i hi => by unfold upto; rw [if_pos hi]
theorem upto_zero (N d : Nat) (g : Nat → Nat) : List.replicate N d = tabN N (upto 0 g d) := by
  apply List.ext_getElem
  · simp [tabN]
  · intro i h1 h2
    simp [tabN, upto]
/-- The numbers of the facts of a state. -/
def stN (vars s : List Nat) (k : Nat) : List Nat := (List.range k).map fun v => psum vars v + s.getD v 0
end Go.Proofs.YtolkjbmcindhjaaGreat
end
section
set_option maxRecDepth 100000
set_option linter.unusedSimpArgs false
set_option linter.unusedVariables false
namespace Go.Proofs.YtolkjbmcindhjaaGreat
open Go Go.W Go.Tk Go.Rx Go.Maps
section
variable {α : Type} {enc : α → List Value} {w w' w1 w2 : World} {v : Value} {ls : List (List α)} {F : List Nat} {A B : Asr}
/-- A table that can be read. -/
def LLV (enc : α → List Value) (w : World) (v : Value) (ls : List (List α)) : Prop := ∃ ps : List (Cell1 × List α), ps.map (·.2) = ls ∧ Vw w v sv1 ps ∧ ∀ p ∈ ps, Vw w p.1.1 enc p.2
theorem LLV.kp (h : LLV enc w v ls) (k : Kp [] w w') : LLV enc w' v ls := by
  obtain ⟨ps, h1, h2, h3⟩ := h
  exact ⟨ps, h1, h2.kp0 k, fun p hp => (h3 p hp).kp0 k⟩
theorem LLA.vw {E : Nat} (h : At w F (Star (LLA v E enc ls) B) w') : LLV enc w' v ls := by
  obtain ⟨ps, h1, h2⟩ := LLA.opn h
  exact ⟨ps, h1, h2.own.vw, fun p hp => h2.drop.vws hp⟩
theorem LLV.at (h : LLV enc w v ls) {i : Nat} {l : List α} (hi : ls[i]? = some l) : ∃ u, oneC u = true ∧ w.cell? (v.adr.add i) = some u ∧ Vw w u enc l := by
  obtain ⟨ps, rfl, h2, h3⟩ := h
  obtain ⟨p, hp, rfl⟩ : ∃ p : Cell1 × List α, ps[i]? = some p ∧ p.2 = l := by
    rw [List.getElem?_map] at hi
    cases hq : ps[i]? with
    | none => rw [hq] at hi; cases hi
    | some p => rw [hq] at hi; exact ⟨p, rfl, Option.some.inj hi⟩
  refine ⟨p.1.1, p.1.2, ?_, h3 p (List.mem_of_getElem? hp)⟩
  simpa using h2.at_ sv1_len hp (o := 0) (u := p.1.1) rfl
theorem LLV.spread (h : LLV enc w v ls) : ∃ ps : List (Cell1 × List α), ps.length = ls.length ∧ Vw w v sv1 ps ∧ ∀ (i : Nat) (p : Cell1 × List α), ps[i]? = some p → ∃ l, ls[i]? = some l ∧ Vw w p.1.1 enc l := by
  obtain ⟨ps, rfl, h2, h3⟩ := h
  exact ⟨ps, by simp, h2, fun i p hp => ⟨p.2, by rw [List.getElem?_map, hp]; rfl, h3 p (List.mem_of_getElem? hp)⟩⟩
/-- What a callee made since its start, beside what is there. -/
theorem At.join (hB : Lcl B) (h : At w F B w1) (t : At w1 [] (Star A Emp) w2) : At w F (Star A B) w2 := by
  obtain ⟨F1, ⟨Fa, Fe, h1, h2, hd, rfl⟩, hs⟩ := t.ex
  refine h.more hB t.kp ⟨Fa, h1, fun x hx => ?_⟩
  rcases hs x (by simp [hx]) with h3 | h3
  · cases h3
  · exact h3
/-- A row is added to a list of rows. -/
theorem li_append {u ov : Value} {c : List α} {outs : List (List α)} {KV : Kont (Value × World)} (hB : Lcl B) (h : At w F (Star (OwnA u 3 1 enc c) (Star (LLA ov 22 enc outs) B)) w1) (hl : outs.length ≤ 100000)
    (H : ∀ v' w2, At w F (Star (LLA v' 22 enc (outs ++ [c])) B) w2 → KV.run (v', w2)) :
    @efH Tryz.prog (Builtin.append_ #[30, 30] 30 [ov, .slice (some ⟨w1.heap.size, 0, none⟩) 1 1].toArray) (w1.alloc (.cells #[u] 22)) KV := by
  have hou := h.own.o1
  obtain ⟨ps, hps, h3⟩ := LLA.opn h.rot
  have hpl : ps.length = outs.length := by rw [← hps]; simp
  have hBX : Lcl (Star (VwsA enc ps) (Star (OwnA u 3 1 enc c) B)) := Lcl.vws.star (Lcl.own.star hB)
  have h4 := h3.kp0 (Lcl.own.star hBX) ((Kp.refl [] w1).alloc (.cells #[u] 22))
  refine At.append (xs := [((⟨u, hou⟩, c) : Cell1 × List α)]) hBX h4 sv1_len sv1_one sl_30 rfl (fun j x hj => ?_) (by omega) (by unfold maxLen; omega) fun v' w5 h5 => H v' w5 ?_
  · simp [sv1] at hj
    rw [add_none, cell_blk alloc_new]
    simpa using hj
  · have h6 : At w F (Star (OwnA v' 22 1 sv1 (ps ++ [((⟨u, hou⟩, c) : Cell1 × List α)])) (Star (VwsA enc (ps ++ [((⟨u, hou⟩, c) : Cell1 × List α)])) B)) w5 :=
      ((h5.rot3.own_vw).by (Imp.trans (Imp.un Imp.sw) (Imp.trans (VwsA.add hou) Imp.sw))).by Imp.rfl
    exact LLA.cls (ls := outs ++ [c]) (by simp [hps]) h6
end
/-- The row of a variable; the rows of the first variables. -/
def rwI (vars : List Nat) (g : Nat → Int) (v : Nat) : List Int := (List.range (vars.getD v 0)).map fun x => g (psum vars v + x)
def tbK (vars : List Nat) (g : Nat → Int) (k : Nat) : List (List Int) := (List.range k).map (rwI vars g)
def tbI (vars : List Nat) (g : Nat → Int) : List (List Int) := tbK vars g vars.length
theorem tbK_len (vars : List Nat) (g : Nat → Int) (k : Nat) : (tbK vars g k).length = k := by simp [tbK]
end Go.Proofs.YtolkjbmcindhjaaGreat
end
section
set_option maxRecDepth 100000
set_option linter.unusedSimpArgs false
set_option linter.unusedVariables false
namespace Go.Proofs.YtolkjbmcindhjaaGreat
open Go Go.W Go.Tk Go.Rx Go.Maps
/-- Sizes. -/
structure Sm (vars : List Nat) (U : List Un) : Prop where
  un : UnOk U vars.sum
  vl : vars.length ≤ 12
  sm : vars.sum ≤ 768
  ul : U.length ≤ 160
/-- A state. -/
structure StN (vars s : List Nat) : Prop where
  len : s.length = vars.length
  rng : ∀ v, v < vars.length → s.getD v 0 < vars.getD v 0
theorem iN_at {l : List Nat} {j : Nat} : (l.map iN).getD j 0 = ((l.getD j 0 : Nat) : Int) := by
  simp only [List.getD, List.getElem?_map]
  cases l[j]? <;> simp [iN]
theorem StN.ok {vars s : List Nat} (h : StN vars s) : stateB (vars.map iN) (s.map iN) = true := by
  unfold stateB
  rw [allR_true fun j hj => ?_]
  · simp [h.len]
  · unfold stAt
    rw [iN_at, iN_at]
    simp at hj
    have := h.rng j (by rw [← h.len]; exact hj)
    simp only [Bool.and_eq_true, decide_eq_true_eq]
    omega
theorem LkP.none {w : World} : LkP w (.map none) (fun _ => true) := .inl ⟨rfl, fun _ => rfl⟩
section
variable {w : World} {b : Nat} {vars : List Nat} {goal : List Fc} {U : List Un} {vv gv fv uv nd fr : Value} {rs : List Ru} {ps : List (Cell1 × List Nat)}
end
end Go.Proofs.YtolkjbmcindhjaaGreat
end
section
set_option maxRecDepth 100000
set_option linter.unusedSimpArgs false
set_option linter.unusedVariables false
namespace Go.Proofs.YtolkjbmcindhjaaGreat
open Go Go.W Go.Tk Go.Rx Go.Maps
/-- The greatest value of a list of facts. -/
def grF (vars : List Nat) (V : Nat → Nat) (l : List Fc) : Nat := gr V (l.map (numF vars))
theorem take_snoc {α : Type} {l : List α} {k : Nat} {x : α} (h : l[k]? = some x) : l.take (k + 1) = l.take k ++ [x] := by
  rw [List.take_add_one, h]; rfl
section
variable {w : World} {b : Nat} {vars : List Nat} {goal : List Fc} {U : List Un} {vv gv fv uv nd fr : Value} {rs : List Ru} {ps : List (Cell1 × List Nat)}
end
end Go.Proofs.YtolkjbmcindhjaaGreat
end
section
set_option maxRecDepth 100000
set_option linter.unusedSimpArgs false
set_option linter.unusedVariables false
namespace Go.Proofs.YtolkjbmcindhjaaGreat
open Go Go.W Go.Tk Go.Rx Go.Maps
def isSup (V : Nat → Nat) (n : Nat) (u : Un) : Bool := decide (u.makes = n) && decide (gr V u.needs + u.cost = V n)
section
variable {w : World} {b : Nat} {vars : List Nat} {goal : List Fc} {U : List Un} {vv gv fv uv nd fr : Value} {rs : List Ru} {ps : List (Cell1 × List Nat)}
end
end Go.Proofs.YtolkjbmcindhjaaGreat
end
