/-
  A part of the proofs of this seat's statements (BdW8); no conditions beyond those each theorem names.
-/
import Derived.Test.YtkojilpjpdpmaaaRBdW7
set_option maxRecDepth 100000
set_option linter.unusedSimpArgs false
set_option linter.unusedVariables false
namespace Go.Proofs.YtkojilpjpdpmaaaR
open Go Go.W Go.Bd Go.Maps
def MemC (n : Nat) (ns : Ns) (M : Mem1) : Prop := ∀ q ∈ M, Ref ns q.1 ∧ q.2 = min (cnt n ns q.1) many
def CPost (m n lim : Nat) (ns : Ns) (f b : Nat) (B : Asr) (w : World) (F : List Nat) (v : Value) (w' : World) : Prop :=
  v = natV (min (cnt n ns f) many) ∧ ∃ M', MemC n ns M' ∧ At w F (Star (MgrA m n lim ns) (Star (MemB b M') B)) w'
set_option maxHeartbeats 4000000 in
theorem count_aux (m n lim b : Nat) (ns : Ns) (hw : Wf n ns) (hb : Bnd n lim ns) (w : World) (F : List Nat) : ∀ (d f : Nat) (M : Mem1) (B : Asr) (w1 : World), Lcl B → Ref ns f → f ≤ d → MemC n ns M →
    At w F (Star (MgrA m n lim ns) (Star (MemB b M) B)) w1 →
    Calls Try.prog 56 [.pointer (some ⟨m, 0, none⟩), .int .i64 (f : Nat), .map (some b)].toArray w1 fun e w' => ∃ v, e = .returned v ∧ CPost m n lim ns f b B w F v w' := by
  intro d
  induction d using Nat.strongRecOn with
  | ind d ih =>
  intro f M B w1 hB hf hd hM hA
  obtain ⟨hbn, hbl, hbs⟩ := hb
  have hb' : Bnd n lim ns := ⟨hbn, hbl, hbs⟩
  have hLX : ∀ M, Lcl (Star (MgrA m n lim ns) (Star (MemB b M) B)) := fun M => Lcl.mgr.star (Lcl.map.star hB)
  have hrf : f ≤ 1048578 := by unfold Ref at hf; omega
  have hmany : many = 1099511627777 := rfl
  refine enter Try.func56 mixed low56 (Nat.le_of_ble_eq_true rfl) ?_
  simp only [L56]
  by_cases h2 : f < 2
  · have h2' : (f : Int) < 2 := by omega
    simp [h2']
    refine ⟨?_, M, hM, hA⟩
    rw [cnt_lt h2]
    unfold natV
    congr 1
    omega
  have h2' : ¬ (f : Int) < 2 := by omega
  simp [h2']
  refine MapM.look2 (x := f) hA.drop.map keyI Try.underlying100 zint (show i64ok f by unfold i64ok; omega) ?_
  cases hgm : getM M f with
  | some r =>
    simp [natV]
    have := (hM _ (getM_in hgm)).2
    simp only at this
    refine ⟨?_, M, hM, hA⟩
    unfold natV
    rw [this]
  | none =>
  simp
  refine cl_of (at_spec m n lim f ns w1 (MgrA.rd hA) hb' hf) ?_
  rintro v w2 ⟨rfl, k2⟩
  have h3 := (hA.kp0 (hLX M) k2).alloc (.cells #[.int .i64 0, .int .i64 0, .int .i64 0] 90) (hLX M)
  simp [ndV, en_len]
  refine h3.st (hLX M) (by simp [en, ints]) (by simp [en, ints]) fun w4 h4 => ?_
  have e3 : ∀ d : Nd, wrAt #[.int .i64 0, .int .i64 0, .int .i64 0] 0 (en d) = (en d).toArray := fun d => by simp [en, ints]
  rw [e3] at h4
  obtain ⟨t, ht⟩ : ∃ t, t = w2.heap.size := ⟨_, rfl⟩
  rw [← ht] at h4 ⊢
  have h5 := h4.tor3
  have hLT : Lcl (Star (ObjA t (.cells (en (at_ n ns f)).toArray 90 (0, 0))) B) := Lcl.obj.star hB
  have hLY : ∀ M, Lcl (Star (MgrA m n lim ns) (Star (MemB b M) (Star (ObjA t (.cells (en (at_ n ns f)).toArray 90 (0, 0))) B))) := fun M => Lcl.mgr.star (Lcl.map.star hLT)
  have hf2 : 2 ≤ f := by omega
  have l1 := hw.lt_low hf2 hf
  have l2 := hw.lt_high hf2 hf
  have tvn := hw.tv_var hf2 hf
  have rl := hw.ref_low hf
  have rh := hw.ref_high hf
  have tl := hw.tv_low hf2 hf
  have th := hw.tv_high hf2 hf
  have bl := hw.tv_le rl
  have bh := hw.tv_le rh
  have etv : tv n ns f = (at_ n ns f).v := rfl
  obtain ⟨nd, hnd⟩ : ∃ nd, nd = at_ n ns f := ⟨_, rfl⟩
  rw [← hnd] at h5 hLT hLY l1 l2 rl rh tl th bl bh etv
  refine any_text (fun _ w' => ∃ M', MemC n ns M' ∧ At w F (Star (MgrA m n lim ns) (Star (MemB b M') (Star (ObjA t (.cells (en nd).toArray 90 (0, 0))) B))) w') (by kernel_rfl) ⟨M, hM, h5.drew (hLY M)⟩ ?_
  have cell : ∀ {M' : Mem1} {w' : World}, At w F (Star (MgrA m n lim ns) (Star (MemB b M') (Star (ObjA t (.cells (en nd).toArray 90 (0, 0))) B))) w' → w'.heap[t]? = some (.cells (en nd).toArray 90 (0, 0)) := fun h => h.drop.drop.obj
  have callC : ∀ x, x < f → Ref ns x → ∀ w', (∃ M', MemC n ns M' ∧ At w F (Star (MgrA m n lim ns) (Star (MemB b M') (Star (ObjA t (.cells (en nd).toArray 90 (0, 0))) B))) w') →
      Calls Try.prog 56 [.pointer (some ⟨m, 0, none⟩), .int .i64 (x : Nat), .map (some b)].toArray w' fun e w'' => ∃ v, e = .returned v ∧ (v = natV (min (cnt n ns x) many) ∧ ∃ M', MemC n ns M' ∧ At w F (Star (MgrA m n lim ns) (Star (MemB b M') (Star (ObjA t (.cells (en nd).toArray 90 (0, 0))) B))) w'') := by
    rintro x hx hr w' ⟨M', hM', h'⟩
    exact ih (d - 1) (by omega) x M' _ w' hLT hr (by omega) hM' h'
  have callA : ∀ x, Ref ns x → ∀ w', (∃ M', MemC n ns M' ∧ At w F (Star (MgrA m n lim ns) (Star (MemB b M') (Star (ObjA t (.cells (en nd).toArray 90 (0, 0))) B))) w') →
      Calls Try.prog 51 [.pointer (some ⟨m, 0, none⟩), .int .i64 (x : Nat)].toArray w' fun e w'' => ∃ v, e = .returned v ∧ (v = ndV (at_ n ns x) ∧ ∃ M', MemC n ns M' ∧ At w F (Star (MgrA m n lim ns) (Star (MemB b M') (Star (ObjA t (.cells (en nd).toArray 90 (0, 0))) B))) w'') := by
    rintro x hr w' ⟨M', hM', h'⟩
    refine (at_spec m n lim x ns w' (MgrA.rd h') hb' hr).mono ?_
    rintro e w'' ⟨v, rfl, rfl, k⟩
    exact ⟨_, rfl, rfl, M', hM', h'.kp0 (hLY M') k⟩
  have callT : ∀ x p, x ≤ many → p ≤ 100000 → ∀ w', (∃ M', MemC n ns M' ∧ At w F (Star (MgrA m n lim ns) (Star (MemB b M') (Star (ObjA t (.cells (en nd).toArray 90 (0, 0))) B))) w') →
      Calls Try.prog 55 [.int .i64 (x : Nat), .int .i64 (p : Nat)].toArray w' fun e w'' => ∃ v, e = .returned v ∧ (v = natV (min (x * 2 ^ p) many) ∧ ∃ M', MemC n ns M' ∧ At w F (Star (MgrA m n lim ns) (Star (MemB b M') (Star (ObjA t (.cells (en nd).toArray 90 (0, 0))) B))) w'') := by
    rintro x p hx hp w' ⟨M', hM', h'⟩
    refine (times_spec x p w' hx hp).mono ?_
    rintro e w'' ⟨v, rfl, rfl, k⟩
    exact ⟨_, rfl, rfl, M', hM', h'.kp0 (hLY M') k⟩
  have etl : tv n ns nd.low = (at_ n ns nd.low).v := rfl
  have eth : tv n ns nd.high = (at_ n ns nd.high).v := rfl
  simp
  refine rdA_mk (.int .i64 (nd.low : Nat)) (fun k' w' hS => ?_) ?_
  · obtain ⟨M', hM', h'⟩ := hS
    simp [cell_blk (cell h'), en, ints]
  simp
  refine efA_mk (natV (min (cnt n ns nd.low) many)) (fun w' hS => ?_) ?_
  · simp
    refine cl_of (callC nd.low (by omega) rl w' hS) ?_
    rintro v w'' ⟨rfl, h⟩
    exact ⟨rfl, h⟩
  simp
  refine rdA_mk (.int .i64 (nd.low : Nat)) (fun k' w' hS => ?_) ?_
  · obtain ⟨M', hM', h'⟩ := hS
    simp [cell_blk (cell h'), en, ints]
  simp
  refine efA_mk (ndV (at_ n ns nd.low)) (fun w' hS => ?_) ?_
  · simp
    refine cl_of (callA nd.low rl w' hS) ?_
    rintro v w'' ⟨rfl, h⟩
    exact ⟨rfl, h⟩
  simp [ndV, en, ints]
  refine rdA_mk (.int .i64 (nd.v : Nat)) (fun k' w' hS => ?_) ?_
  · obtain ⟨M', hM', h'⟩ := hS
    simp [cell_blk (cell h'), en, ints]
  simp (disch := omega) [wrap_i64]
  refine efA_mk (natV (min (min (cnt n ns nd.low) many * 2 ^ (tv n ns nd.low - nd.v - 1)) many)) (fun w' hS => ?_) ?_
  · simp [natV]
    have e1 : (((at_ n ns nd.low).v : Int) - nd.v - 1) = ((tv n ns nd.low - nd.v - 1 : Nat) : Int) := by
      have : tv n ns nd.low = (at_ n ns nd.low).v := rfl
      omega
    rw [e1]
    refine cl_of (callT (min (cnt n ns nd.low) many) (tv n ns nd.low - nd.v - 1) (by omega) (by omega) w' hS) ?_
    rintro v w'' ⟨rfl, h⟩
    exact ⟨rfl, h⟩
  simp
  refine rdA_mk (.int .i64 (nd.high : Nat)) (fun k' w' hS => ?_) ?_
  · obtain ⟨M', hM', h'⟩ := hS
    simp [cell_blk (cell h'), en, ints]
  simp
  refine efA_mk (natV (min (cnt n ns nd.high) many)) (fun w' hS => ?_) ?_
  · simp
    refine cl_of (callC nd.high (by omega) rh w' hS) ?_
    rintro v w'' ⟨rfl, h⟩
    exact ⟨rfl, h⟩
  simp
  refine rdA_mk (.int .i64 (nd.high : Nat)) (fun k' w' hS => ?_) ?_
  · obtain ⟨M', hM', h'⟩ := hS
    simp [cell_blk (cell h'), en, ints]
  simp
  refine efA_mk (ndV (at_ n ns nd.high)) (fun w' hS => ?_) ?_
  · simp
    refine cl_of (callA nd.high rh w' hS) ?_
    rintro v w'' ⟨rfl, h⟩
    exact ⟨rfl, h⟩
  simp [ndV, en, ints]
  refine rdA_mk (.int .i64 (nd.v : Nat)) (fun k' w' hS => ?_) ?_
  · obtain ⟨M', hM', h'⟩ := hS
    simp [cell_blk (cell h'), en, ints]
  simp (disch := omega) [wrap_i64]
  refine efA_mk (natV (min (min (cnt n ns nd.high) many * 2 ^ (tv n ns nd.high - nd.v - 1)) many)) (fun w' hS => ?_) ?_
  · simp [natV]
    have e1 : (((at_ n ns nd.high).v : Int) - nd.v - 1) = ((tv n ns nd.high - nd.v - 1 : Nat) : Int) := by
      have : tv n ns nd.high = (at_ n ns nd.high).v := rfl
      omega
    rw [e1]
    refine cl_of (callT (min (cnt n ns nd.high) many) (tv n ns nd.high - nd.v - 1) (by omega) (by omega) w' hS) ?_
    rintro v w'' ⟨rfl, h⟩
    exact ⟨rfl, h⟩
  have hcn := cnt_node hw hf2 hf
  rw [← hnd, etv] at hcn
  simp (disch := omega) [natV, wrap_i64]
  intro w' M' hM' h'
  have ev : (min (((min (min (cnt n ns nd.low) many * 2 ^ (tv n ns nd.low - nd.v - 1)) many : Nat) : Int) + ((min (min (cnt n ns nd.high) many * 2 ^ (tv n ns nd.high - nd.v - 1)) many : Nat) : Int)) 1099511627777 : Int) = ((min (cnt n ns f) many : Nat) : Int) := by
    rw [many_mul, many_mul, hcn, ← many_add]; omega
  rw [ev]
  have hml : M'.length ≤ 1048578 := mem1_small (ns := ns) (N := 1048578) (by omega) (fun q hq => (hM' q hq).1) (MapM.nodup h'.drop.map)
  refine At.put (x := f) (v := min (cnt n ns f) many) (Lcl.mgr.star hLT) h'.rot keyI Try.underlying100 (show i64ok f by unfold i64ok; omega) (by unfold maxLen; omega) fun w12 h12 => ?_
  simp
  refine ⟨rfl, _, ?_, (h12.rot).by (Imp.un (Imp.un Imp.dr))⟩
  intro q hq
  rcases putM_mem hq with h1 | rfl
  · exact hM' q h1
  · exact ⟨hf, rfl⟩
theorem Count_nil (f : Int) (w : World) : Calls Try.prog 25 [.pointer none, .int .i64 f].toArray w fun e w' => ∃ x, e = .returned x ∧ x = noV 3 ∧ Kp [] w w' := by
  refine enter Try.func25 mixed low25 (Nat.le_of_ble_eq_true rfl) ?_
  simp only [L25]
  simp [rowOf]
  refine cl_of (check_nil _ _) ?_
  rintro v w2 ⟨rfl, k2⟩
  simp [errV]
  exact ⟨rfl, ((Kp.refl [] w).alloc _).trans0 k2⟩
theorem Count_bad {w w1 : World} {F : List Nat} {B : Asr} (m n lim : Nat) (ns : Ns) (f : Int) (hB : Lcl B) (hA : At w F (Star (MgrA m n lim ns) B) w1) (hb : Bnd n lim ns) (h : refB ns f = false) :
    Calls Try.prog 25 [.pointer (some ⟨m, 0, none⟩), .int .i64 f].toArray w1 fun e w' => ∃ x, e = .returned x ∧ x = noV 1 ∧ At w F (Star (MgrA m n lim ns) B) w' := by
  refine enter Try.func25 mixed low25 (Nat.le_of_ble_eq_true rfl) ?_
  simp only [L25]
  have hl : Lcl (Star (MgrA m n lim ns) B) := Lcl.mgr.star hB
  have h1 := lit_ints (xs := [f]) (cs := #[.int .i64 f]) hl hA rfl (by simp) rfl
  simp [rowOf]
  refine cl_of (check_spec m n lim ns _ [f] _ (MgrA.rd h1.drop) hb h1.own.vw (by simp)) ?_
  rintro u w2 ⟨rfl, k2⟩
  simp [chkV, errV, h]
  exact ⟨rfl, (h1.drop).kp0 hl k2⟩
/-- What Count answers. -/
def cntV (x : Nat) : Value := if x < many then okV x else noV 5
theorem Count_spec {w w1 : World} {F : List Nat} {B : Asr} (m n lim : Nat) (ns : Ns) (f : Nat) (hB : Lcl B) (hA : At w F (Star (MgrA m n lim ns) B) w1) (hw : Wf n ns) (hb : Bnd n lim ns) (hf : Ref ns f) :
    Calls Try.prog 25 [.pointer (some ⟨m, 0, none⟩), .int .i64 (f : Nat)].toArray w1 fun e w' => ∃ x, e = .returned x ∧ x = cntV (num n 0 fun a => eval ns a f) ∧ At w F (Star (MgrA m n lim ns) B) w' := by
  have hbn := hb.hn
  have hmany : many = 1099511627777 := rfl
  refine enter Try.func25 mixed low25 (Nat.le_of_ble_eq_true rfl) ?_
  simp only [L25]
  have hl : Lcl (Star (MgrA m n lim ns) B) := Lcl.mgr.star hB
  have h1 := lit_ints (xs := [(f : Int)]) (cs := #[.int .i64 f]) hl hA rfl (by simp) rfl
  simp [rowOf]
  refine cl_of (check_spec m n lim ns _ [(f : Int)] _ (MgrA.rd h1.drop) hb h1.own.vw (by simp)) ?_
  rintro u w2 ⟨rfl, k2⟩
  have h2 := (h1.drop).kp0 hl k2
  have hr : [(f : Int)].all (refB ns) = true := by
    unfold Ref at hf
    simp [refB]; omega
  rw [hr]
  have h3 := (h2.newmap (ek := natV) (ev := natV) (ok := i64ok) hl).rot
  simp [chkV]
  refine cl_of (count_aux m n lim _ ns hw hb w F f f [] B _ hB hf (Nat.le_refl _) (fun q hq => by cases hq) h3) ?_
  rintro _ w4 ⟨rfl, M', hM', h4⟩
  have h5 := h4.by (Imp.un Imp.dr)
  have htv := hw.tv_le hf
  simp
  refine cl_of (at_spec m n lim f ns w4 (MgrA.rd h5) hb hf) ?_
  rintro _ w6 ⟨rfl, k6⟩
  have h6 := h5.kp0 hl k6
  have etv : tv n ns f = (at_ n ns f).v := rfl
  simp [ndV, en, ints, natV]
  refine cl_of (times_spec (min (cnt n ns f) many) (at_ n ns f).v w6 (by omega) (by omega)) ?_
  rintro _ w7 ⟨rfl, k7⟩
  have h7 := h6.kp0 hl k7
  have hc := cnt_all hw hf
  rw [etv] at hc
  obtain ⟨c, hce⟩ : ∃ c, c = num n 0 fun a => eval ns a f := ⟨_, rfl⟩
  rw [← hce] at hc ⊢
  have e : min (min (cnt n ns f) many * 2 ^ (at_ n ns f).v) many = min c many := by rw [many_mul, hc]
  rw [e]
  by_cases hlt : c < many
  · have h8 : ¬ (1099511627777 : Int) ≤ ((min c many : Nat) : Int) := by omega
    have h9 : min c many = c := by omega
    simp [h8]
    rw [h9]
    exact ⟨by simp [cntV, hlt, okV], h7⟩
  · have h8 : (1099511627777 : Int) ≤ ((min c many : Nat) : Int) := by omega
    simp [h8]
    exact ⟨by simp [cntV, hlt, noV, errV], h7⟩
end Go.Proofs.YtkojilpjpdpmaaaR
