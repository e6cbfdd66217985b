/-
  A part of the proofs of this seat's statements (BdWC); no conditions beyond those each theorem names.
-/
import Derived.Test.YtkojilpjpdpmaaaRBdWB
import Derived.Test.YtkojilpjpdpmaaaRBdKeys
import Derived.Test.YtkojilpjpdpmaaaRLibR
import Derived.Maps.OwnSet
set_option maxRecDepth 100000
set_option linter.unusedSimpArgs false
set_option linter.unusedVariables false
namespace Go.Proofs
open Go.RowKit Go.Maps Go.Sort Go.Shelf
theorem Try.sorts53 (m : Nat) : AnyZI.SortsIn Try.prog Try.sorted53_ren Fence.wide m :=
  ⟨fun blk off cap ss W hH hblk hsz => callsIn_wide.2 (AnyM.slices_Sort_int Try.sort72 blk off cap ss W hH hblk hsz),
   fun p cap W => callsIn_wide.2 (AnyM.slices_Sort_int_none Try.sort72 p cap W)⟩
theorem Try.maps_Keys_54 (mb : Option Nat) (W : World) : CallsIn Fence.wide 5 Try.prog 54 #[.map mb] W fun e w' => e = .returned (.func (.func 73) #[] #[.pointer (some ⟨W.heap.size, 0, none⟩)]) ∧ w' = W.alloc (.cells #[.map mb] 92) :=
  AnyZI.keys_in Try.keys54 Fence.wide 5 trivial rfl mb W
theorem Try.sorted_keys_54 {H : Type} (b nn : Nat) (D0 : DataW H) (R : Value → Option (DataW H × List MemPlace)) (w : World) (hown : w.ownsMap Try.prog 3 R b nn D0) (hmax : Maps.size D0 ≤ maxLen) (hbytes : Maps.size D0 * 8 ≤ 140737488355328) :
    CallsIn Fence.wide 5 Try.prog 53 #[.func (.func 73) #[] #[.pointer (some ⟨w.heap.size, 0, none⟩)]] (w.alloc (.cells #[.map (some b)] 92)) fun e w' => ∃ (v : Value) (ss : List Int), e = .returned v ∧ ss.Perm (intKeys D0) ∧
      w'.ownsRow (w.alloc (.cells #[.map (some b)] 92)).heap.size 3 1 v ss.length ((ss.mergeSort (fun x y => decide (x ≤ y))).map encZ) ∧ (v = .slice none 0 0 ↔ ss = []) ∧ Below (w.alloc (.cells #[.map (some b)] 92)).heap.size (w.alloc (.cells #[.map (some b)] 92)) w' := by
  have hbl := hown.lt
  have hseq : SeqGives Fence.wide 2 Try.prog 73 #[.pointer (some ⟨w.heap.size, 0, none⟩)] encZ (fun ss => ss.Perm (intKeys D0)) (Maps.size D0) (w.alloc (.cells #[.map (some b)] 92)) :=
    AnyZI.keys_gives (ρ := Try.keys54_ren) { Try.keys54 with } Fence.wide _ trivial rfl (by omega) w.heap.size b nn D0 _ (by simp) (by simp) (by
      obtain ⟨es, clock, hb, Ft, hs, hD⟩ := hown
      exact ⟨es, clock, (Below.heap_alloc _ _ b hbl).trans hb, Ft, hs, hD⟩)
  exact AnyZI.sorted_in Try.sorted53 Fence.wide 5 trivial trivial trivial trivial rfl (by omega) (Try.sorts53 _) (enters_of Try.func72 (by kernel_rfl) rfl) 73 #[.pointer (some ⟨w.heap.size, 0, none⟩)] trivial (enters_of Try.func73 (by kernel_rfl) rfl) _ _ hmax hbytes _ hseq
end Go.Proofs
namespace Go.Proofs.YtkojilpjpdpmaaaR
open Go Go.W Go.Bd Go.Maps
open Go.WideElems (Fit rd rg)
theorem seen_owns {w : World} {b : Nat} {M : MemR} (h : MapM w b natV Value.bool i64ok M) :
    ∃ D0 : DataW Unit, w.ownsMap Try.prog 3 (plainElem Try.prog 4) b M.length D0 ∧ (intKeys D0).Perm ((keys M).map fun n : Nat => (n : Int)) ∧ Maps.size D0 = M.length := by
  obtain ⟨es', clock, hb, hsz, hes, hok, hnd, hst⟩ := h
  let g : Value × Value → Lit × DataW Unit := fun q => (((keyOf Try.prog 3 q.1).bind fun key => (plainElem (H := Unit) Try.prog 4 q.2).map fun y => (key, y.1)).getD (.bool false, .nil))
  have hrg : ∀ x : MapEntry, rg (H := Unit) Try.prog 3 (plainElem Try.prog 4) x = g (x.key, x.val) := fun x => rfl
  have hgl : es'.toList.map (rg (H := Unit) Try.prog 3 (plainElem Try.prog 4)) = M.map fun p => g (natV p.1, .bool p.2) := by
    have : es'.toList.map (rg (H := Unit) Try.prog 3 (plainElem Try.prog 4)) = (es'.toList.map fun x => (x.key, x.val)).map g := by
      rw [List.map_map]; rfl
    rw [this, hes, List.map_map]; rfl
  have hk : ∀ x : Nat, i64ok x → keyOf Try.prog 3 (natV x) = some (.int .i64 x) := fun x hx => keyOf_int_mk Try.underlying3 (wf_nat hx)
  have hg : ∀ p ∈ M, g (natV p.1, .bool p.2) = (.int .i64 p.1, .lit (.bool p.2)) := fun p hp => by
    show (((keyOf Try.prog 3 (natV p.1)).bind fun key => (plainElem (H := Unit) Try.prog 4 (.bool p.2)).map fun y => (key, y.1)).getD (.bool false, .nil)) = _
    rw [hk _ (hok p hp), plainElem_bool Try.underlying4]
    rfl
  have hperm := WideShapes.sorted_perm (es'.toList.map (rg (H := Unit) Try.prog 3 (plainElem Try.prog 4)))
  have e1 : es'.size = M.length := by
    have := congrArg List.length hes
    simpa using this
  refine ⟨_, ⟨es', clock, hb, ⟨hsz, hst, fun x hx => ?_⟩, by omega, rfl⟩, ?_, ?_⟩
  · obtain ⟨j, hj⟩ := List.getElem?_of_mem hx
    have := congrArg (·[j]?) hes
    simp only [List.getElem?_map, hj, Option.map_some] at this
    cases hp' : M[j]? with
    | none => rw [hp'] at this; cases this
    | some p =>
      rw [hp'] at this
      simp only [Option.map_some, Option.some.injEq, Prod.mk.injEq] at this
      have hm := List.mem_of_getElem? hp'
      refine ⟨(.int .i64 p.1, .lit (.bool p.2)), ?_⟩
      unfold rd
      rw [this.1, this.2, hk _ (hok p hm), plainElem_bool Try.underlying4]
      rfl
  · have : ((keys M).map fun n : Nat => (n : Int)) = (es'.toList.map (rg (H := Unit) Try.prog 3 (plainElem Try.prog 4))).map (fun p => Go.intOf p.1) := by
      rw [hgl, List.map_map, keys, List.map_map]
      refine List.map_congr_left fun p hp => ?_
      simp only [Function.comp]
      rw [hg p hp]; rfl
    rw [this]
    exact hperm.map _
  · show (List.foldr DataW.insert [] _).length = _
    rw [hperm.length_eq, List.length_map]
    simpa using e1
theorem flat_iv (ss : List Int) : ss.flatMap iv = ss.map encZ := by
  induction ss with
  | nil => rfl
  | cons a l ih => simp only [List.map_cons, List.flatMap_cons, ih]; rfl
theorem own_of_row {w : World} {base : Nat} {v : Value} {ss : List Int} (h : w.ownsRow base 3 1 v ss.length (ss.map encZ)) : Own w v 3 1 iv ss ∧ (∀ x ∈ v.own, base ≤ x) := by
  rcases h.2 with ⟨rfl, h0⟩ | ⟨g, cap, cur, rfl, hg, hb, h1, h2, h3, h4⟩
  · have : ss = [] := List.length_eq_zero_iff.1 h0
    subst this
    exact ⟨.inl ⟨rfl, rfl⟩, by simp⟩
  · refine ⟨.inr ⟨g, cap, cur, cur.toList.drop ss.length, rfl, hb, ?_, ?_, by simpa using h1, h2⟩, by simpa using hg⟩
    · rw [flat_iv, ← h4, Nat.mul_one, List.take_append_drop]
    · simp; omega
theorem kp_below {w w' : World} (h : Go.RowKit.Below w.heap.size w w') : Kp [] w w' := ⟨h.os, h.tape, h.output, h.size, fun b hb _ => h.block b hb⟩
theorem support_nil (f : Int) (w : World) : Calls Try.prog 24 [.pointer none, .int .i64 f].toArray w fun e w' => ∃ x, e = .returned x ∧ x = .tuple #[.slice none 0 0, errV 3] ∧ Kp [] w w' := by
  refine enter Try.func24 mixed low24 (Nat.le_of_ble_eq_true rfl) ?_
  simp only [L24]
  simp [rowOf]
  refine cl_of (check_nil _ _) ?_
  rintro v w2 ⟨rfl, k2⟩
  simp [errV]
  exact ((Kp.refl [] w).alloc _).trans0 k2
structure SupI (n : Nat) (ns : Ns) (vis V : MemR) : Prop where
  has : ∀ x, x ∈ keys V ↔ ∃ p ∈ vis, x = tv n ns p.1
  all : ∀ q ∈ V, q.2 = true
/-- The variables of what can be reached. -/
def SupP (n : Nat) (ns : Ns) (f : Nat) (L : List Int) : Prop := L.Pairwise (· < ·) ∧ ∀ x : Int, x ∈ L ↔ ∃ y, Rch n ns f y ∧ x = (tv n ns y : Nat)
set_option maxHeartbeats 1000000 in
theorem support_spec {w w1 : World} {F : List Nat} {B : Asr} (m n lim : Nat) (ns : Ns) (f : Nat) (hB : Lcl B) (hA : At w F (Star (MgrA m n lim ns) B) w1) (hw : Wf n ns) (hb : Bnd n lim ns) (hf : Ref ns f) :
    Calls Try.prog 24 [.pointer (some ⟨m, 0, none⟩), .int .i64 (f : Nat)].toArray w1 fun e w' => ∃ x, e = .returned x ∧ ∃ (v : Value) (L : List Int), x = .tuple #[v, .nilIface] ∧ SupP n ns f L ∧ At w F (Star (OwnA v 3 1 iv L) (Star (MgrA m n lim ns) B)) w' := by
  have hbn := hb.hn
  have hbl := hb.hl
  have hbs := hb.hs
  refine enter Try.func24 mixed low24 (Nat.le_of_ble_eq_true rfl) ?_
  simp only [L24]
  have hl : Lcl (Star (MgrA m n lim ns) B) := Lcl.mgr.star hB
  simp [rowOf]
  refine cl_of (check_lit [(f : Int)] (MgrA.rd hA) hb rfl (by simp) rfl) ?_
  rintro u w2 ⟨rfl, k2⟩
  have h2 := hA.kp0 hl k2
  have hr : [(f : Int)].all (refB ns) = true := by
    unfold Ref at hf
    simp [refB]; omega
  rw [hr]
  simp [chkV]
  have h3 := h2.newmap (ek := natV) (ev := Value.bool) (ok := i64ok) hl
  have h4 := h3.newmap (ek := natV) (ev := Value.bool) (ok := i64ok) (Lcl.map.star hl)
  obtain ⟨b1, hb1⟩ : ∃ b1, b1 = w2.heap.size := ⟨_, rfl⟩
  obtain ⟨b2, hb2⟩ : ∃ b2, b2 = (w2.alloc (.map #[] 0)).heap.size := ⟨_, rfl⟩
  rw [← hb2, ← hb1] at h4
  rw [← hb1]
  have eb2 : w2.heap.size + 1 = b2 := by rw [hb2]; simp
  try rw [eb2]
  refine cl_of (reach_aux m n lim b1 ns hw hb w F (Star (SeenB b2 []) B) (Lcl.map.star hB) f f [] _ hf (Nat.le_refl _) (fun q hq => by cases hq) (fun q hq => by cases hq) h4.rot.rot3) ?_
  rintro _ w4 ⟨M', o, hR, h5⟩
  have hLB : Lcl (Star (MgrA m n lim ns) (Star (SeenB b2 []) B)) := Lcl.mgr.star (Lcl.map.star hB)
  simp
  refine At.range hLB h5.rot Try.underlying92 fun w5 h6 => ?_
  obtain ⟨r, hr1⟩ : ∃ r, r = w4.heap.size := ⟨_, rfl⟩
  rw [← hr1] at h6 ⊢
  simp
  refine loop_inv (fun q ρ w5 => ∃ (vis V : MemR), ρ 0 = .pointer (some ⟨m, 0, none⟩) ∧ ρ 8 = .map (some b2) ∧ ρ 24 = .pointer (some ⟨r, 0, none⟩) ∧ q = M'.length - vis.length ∧ SupI n ns vis V ∧
    At w F (Star (RngA b1 r natV Value.bool i64ok M' vis) (Star (MgrA m n lim ns) (Star (SeenB b2 V) B))) w5) _ ⟨[], [], by simp, by simp; omega, by simp, rfl, ⟨by simp [keys], by simp⟩, h6⟩ ?_
  rintro q ρ w6 ⟨vis, V, g0, g8, g24, rfl, hI, h7⟩
  have hLV : ∀ V, Lcl (Star (MgrA m n lim ns) (Star (SeenB b2 V) B)) := fun V => Lcl.mgr.star (Lcl.map.star hB)
  simp [g24]
  refine At.next (hLV V) keyI h7 (fun hall h8 => ?_) (fun p w7 hp hpv h8 => ?_)
  · simp [g8]
    have hV := h8.drop.drop.map
    have hVn := MapM.nodup hV
    have hvn : ∀ x ∈ keys V, x ≤ n := fun x hx => by
      obtain ⟨p, hp, rfl⟩ := (hI.has x).1 hx
      exact hw.tv_le (hR p.1 (List.mem_map.2 ⟨p, h8.rng.sub p hp, rfl⟩))
    have hVl : V.length ≤ 257 := by
      have := nodup_len _ (List.range (n + 1)) hVn (fun x hx => List.mem_range.2 (by have := hvn x hx; omega))
      simp at this; omega
    obtain ⟨D0, hown, hperm, hDs⟩ := seen_owns hV
    refine cl_of (R := fun v w' => v = .func (.func 73) #[] #[.pointer (some ⟨w6.heap.size, 0, none⟩)] ∧ w' = w6.alloc (.cells #[.map (some b2)] 92))
      (Calls.mono (callsIn_wide.1 (Try.maps_Keys_54 (some b2) w6)) (by rintro e w' ⟨rfl, rfl⟩; exact ⟨_, rfl, rfl, rfl⟩)) ?_
    rintro _ _ ⟨rfl, rfl⟩
    simp
    refine cl_of (R := fun v w' => ∃ ss : List Int, ss.Perm ((keys V).map fun n : Nat => (n : Int)) ∧ Own w' v 3 1 iv (ss.mergeSort leI) ∧ (∀ x ∈ v.own, w6.heap.size ≤ x) ∧ Kp [] w6 w')
      (Calls.mono (callsIn_wide.1 (Try.sorted_keys_54 b2 V.length D0 (plainElem Try.prog 4) w6 hown (by rw [hDs]; unfold maxLen; omega) (by rw [hDs]; omega))) ?_) ?_
    · rintro e w' ⟨v, ss, rfl, hS, hrow, hnil, hb⟩
      have hml : ss.length = (ss.mergeSort (fun x y => decide (x ≤ y))).length := by simp
      rw [hml] at hrow
      obtain ⟨ho, hlow⟩ := own_of_row hrow
      exact ⟨v, rfl, ss, hS.trans hperm, ho, fun x hx => by have := hlow x hx; simp at this; omega, ((Kp.refl [] w6).alloc _).trans0 (kp_below hb)⟩
    rintro v w9 ⟨ss, hS, ho, hlow, k9⟩
    have h9 : At w F (Star (OwnA v 3 1 iv (ss.mergeSort leI)) _) w9 := h8.more (Lcl.rng.star (hLV V)) k9 ⟨v.own, ⟨ho, rfl⟩, hlow⟩
    simp
    refine ⟨ss.mergeSort leI, ?_, h9.by (Imp.un (Imp.dr.trans (Imp.un Imp.dr)))⟩
    have tr : ∀ a b c : Int, leI a b = true → leI b c = true → leI a c = true := fun a b c h1 h2 => by simp only [leI, decide_eq_true_eq] at *; exact Int.le_trans h1 h2
    have to : ∀ a b : Int, (leI a b || leI b a) = true := fun a b => by simp only [leI, Bool.or_eq_true, decide_eq_true_eq]; exact Int.le_total a b
    have hpw := List.pairwise_mergeSort tr to ss
    have hnd : (ss.mergeSort leI).Nodup := by
      rw [(List.mergeSort_perm ss leI).nodup_iff, hS.nodup_iff, List.nodup_iff_pairwise_ne, List.pairwise_map]
      exact (List.nodup_iff_pairwise_ne.1 hVn).imp fun h e => h (by omega)
    have hlt : (ss.mergeSort leI).Pairwise (· < ·) := by
      refine (hpw.and (List.nodup_iff_pairwise_ne.1 hnd)).imp ?_
      intro a b h
      obtain ⟨h1, h2⟩ := h
      simp only [leI, decide_eq_true_eq] at h1
      omega
    refine ⟨hlt, fun x => ?_⟩
    rw [(List.mergeSort_perm ss leI).mem_iff, hS.mem_iff, List.mem_map]
    constructor
    · rintro ⟨y, hy, rfl⟩
      obtain ⟨p, hp, rfl⟩ := (hI.has y).1 hy
      exact ⟨p.1, (o.all_rch p.1).1 (List.mem_map.2 ⟨p, h8.rng.sub p hp, rfl⟩), rfl⟩
    · rintro ⟨y, hy, rfl⟩
      obtain ⟨p, hp, rfl⟩ := List.mem_map.1 ((o.all_rch y).2 hy)
      exact ⟨_, (hI.has _).2 ⟨p, hall p hp, rfl⟩, rfl⟩
  · simp [g24]
    refine At.entry h8 ?_
    have hrp : Ref ns p.1 := hR p.1 (List.mem_map.2 ⟨p, hp, rfl⟩)
    simp [g0, g8, natV]
    refine cl_of (at_spec m n lim p.1 ns w7 (MgrA.rd h8.drop) hb hrp) ?_
    rintro _ w8 ⟨rfl, k8⟩
    have h9 := (h8.kp0 (Lcl.rng.star (hLV V)) k8).rot3
    have hV := h9.map
    have hVn := MapM.nodup hV
    have hvn : ∀ x ∈ keys V, x ≤ n := fun x hx => by
      obtain ⟨p, hp, rfl⟩ := (hI.has x).1 hx
      exact hw.tv_le (hR p.1 (List.mem_map.2 ⟨p, h7.rng.sub p hp, rfl⟩))
    have hVl : V.length ≤ 257 := by
      have := nodup_len _ (List.range (n + 1)) hVn (fun x hx => List.mem_range.2 (by have := hvn x hx; omega))
      simp at this; omega
    have htv := hw.tv_le hrp
    have etv : tv n ns p.1 = (at_ n ns p.1).v := rfl
    simp [ndV, en, ints, g8]
    refine At.put (x := (at_ n ns p.1).v) (v := true) (Lcl.rng.star (Lcl.mgr.star hB)) h9 keyI Try.underlying92 (by unfold i64ok; omega) (by unfold maxLen; omega) fun w10 h10 => ?_
    have hlen : (vis ++ [p]).length ≤ M'.length := nodup_len _ _ h8.rng.nd h8.rng.sub
    simp at hlen
    simp [g0, g8, g24]
    refine ⟨M'.length - (vis ++ [p]).length, by simp; omega, vis ++ [p], rfl, putM V (at_ n ns p.1).v true, ⟨fun x => ?_, putM_all hI.all⟩, h10.tor3⟩
    · rw [putM_keys, hI.has x]
      simp only [List.mem_append, List.mem_singleton]
      constructor
      · rintro (⟨q, hq, rfl⟩ | rfl)
        · exact ⟨q, .inl hq, rfl⟩
        · exact ⟨p, .inr rfl, rfl⟩
      · rintro ⟨q, hq | rfl, rfl⟩
        · exact .inl ⟨q, hq, rfl⟩
        · exact .inr rfl
end Go.Proofs.YtkojilpjpdpmaaaR
