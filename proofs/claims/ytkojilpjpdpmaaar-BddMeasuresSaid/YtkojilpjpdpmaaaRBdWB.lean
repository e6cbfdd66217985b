/-
  A part of the proofs of this seat's statements (BdWB); no conditions beyond those each theorem names.
-/
import Derived.Test.YtkojilpjpdpmaaaRBdWA
import Derived.Test.YtkojilpjpdpmaaaRBdR
set_option maxRecDepth 100000
set_option linter.unusedSimpArgs false
set_option linter.unusedVariables false
namespace Go.Proofs.YtkojilpjpdpmaaaR
open Go Go.W Go.Bd Go.Maps
theorem zbool (w : World) : (zeroValue 4).run Try.prog w = .ok (.bool false) w := Try.zeroValue4 w
abbrev SeenB (b : Nat) (M : MemR) : Asr := MapA b natV Value.bool i64ok M
theorem getM_all {M : MemR} {x : Nat} (ha : ∀ q ∈ M, q.2 = true) : (((getM M x).map Value.bool).getD (.bool false)) = .bool (decide (x ∈ keys M)) := by
  cases h : getM M x with
  | some r =>
    have h1 := getM_in h
    have h2 := ha _ h1
    simp only at h2
    have : x ∈ keys M := List.mem_map.2 ⟨_, h1, rfl⟩
    simp [h2, this]
  | none =>
    have : x ∉ keys M := fun hx => by
      obtain ⟨q, hq, e⟩ := List.mem_map.1 hx
      simp only [getM, Option.map_eq_none_iff, List.find?_eq_none] at h
      exact h q hq (by simp [e])
    simp [this]
theorem putM_keys {M : MemR} {x y : Nat} : y ∈ keys (putM M x true) ↔ y ∈ keys M ∨ y = x := by
  unfold putM keys
  split
  · rename_i h
    rw [List.any_eq_true] at h
    obtain ⟨p, hp, e⟩ := h
    have e : p.1 = x := by simpa using e
    constructor
    · intro hy
      obtain ⟨q, hq, rfl⟩ := List.mem_map.1 hy
      obtain ⟨p', hp', e'⟩ := List.mem_map.1 hq
      split at e'
      · exact .inr (by rw [← e'])
      · exact .inl (by rw [← e']; exact List.mem_map.2 ⟨_, hp', rfl⟩)
    · have key : ∀ y, y ∈ M.map (·.1) → y ∈ (M.map fun p => if p.1 = x then (x, true) else p).map (·.1) := fun y hy => by
        obtain ⟨q, hq, rfl⟩ := List.mem_map.1 hy
        refine List.mem_map.2 ⟨_, List.mem_map.2 ⟨q, hq, rfl⟩, ?_⟩
        split
        · rename_i h; exact h.symm
        · rfl
      rintro (hy | rfl)
      · exact key y hy
      · exact key y (List.mem_map.2 ⟨p, hp, e⟩)
  · simp
theorem putM_all {M : MemR} {x : Nat} (ha : ∀ q ∈ M, q.2 = true) : ∀ q ∈ putM M x true, q.2 = true := fun q hq => by
  rcases putM_mem hq with h | rfl
  · exact ha q h
  · rfl
theorem keys_small {ns : Ns} {M : MemR} {N : Nat} (hN : ns.length + 2 ≤ N) (hr : ∀ x ∈ keys M, Ref ns x) (hn : (M.map (·.1)).Nodup) : M.length ≤ N := by
  have := nodup_len _ (List.range N) hn (fun x hx => by
    have := hr x hx
    unfold Ref at this
    exact List.mem_range.2 (by omega))
  simpa using this
def RPost (m n lim : Nat) (ns : Ns) (f b : Nat) (M : MemR) (B : Asr) (w : World) (F : List Nat) (w' : World) : Prop :=
  ∃ M', ROk n ns f M M' ∧ (∀ x ∈ keys M', Ref ns x) ∧ At w F (Star (MgrA m n lim ns) (Star (SeenB b M') B)) w'
theorem reach_aux (m n lim b : Nat) (ns : Ns) (hw : Wf n ns) (hb : Bnd n lim ns) (w : World) (F : List Nat) (B : Asr) (hB : Lcl B) : ∀ (d f : Nat) (M : MemR) (w1 : World), Ref ns f → f ≤ d → (∀ q ∈ M, q.2 = true) → (∀ x ∈ keys M, Ref ns x) →
    At w F (Star (MgrA m n lim ns) (Star (SeenB b M) B)) w1 →
    Calls Try.prog 52 [.pointer (some ⟨m, 0, none⟩), .int .i64 (f : Nat), .map (some b)].toArray w1 fun e w' => ∃ v, e = .returned v ∧ RPost m n lim ns f b M B w F w' := by
  intro d
  induction d using Nat.strongRecOn with
  | ind d ih =>
  intro f M w1 hf hd hM hR hA
  obtain ⟨hbn, hbl, hbs⟩ := hb
  have hb' : Bnd n lim ns := ⟨hbn, hbl, hbs⟩
  have hLX : ∀ M, Lcl (Star (MgrA m n lim ns) (Star (SeenB b M) B)) := fun M => Lcl.mgr.star (Lcl.map.star hB)
  have hrf : f ≤ 1048578 := by unfold Ref at hf; omega
  have hok : i64ok f := by unfold i64ok; omega
  refine enter Try.func52 mixed low52 (Nat.le_of_ble_eq_true rfl) ?_
  simp only [L52]
  by_cases h2 : f < 2
  · have h2' : (f : Int) < 2 := by omega
    simp [h2']
    exact ⟨M, ROk.same (.inl h2) hM, hR, hA⟩
  have h2' : ¬ (f : Int) < 2 := by omega
  simp [h2']
  refine MapM.look1 (x := f) hA.drop.map keyI Try.underlying92 zbool hok ?_
  rw [getM_all hM]
  by_cases hin : f ∈ keys M
  · simp [hin, h2']
    exact ⟨M, ROk.same (.inr hin) hM, hR, hA⟩
  simp [hin, h2']
  have hf2 : 2 ≤ f := by omega
  have l1 := hw.lt_low hf2 hf
  have l2 := hw.lt_high hf2 hf
  have rl := hw.ref_low hf
  have rh := hw.ref_high hf
  have hml : M.length ≤ 1048578 := keys_small (ns := ns) (N := 1048578) (by omega) hR (MapM.nodup hA.drop.map)
  refine At.put (x := f) (v := true) (Lcl.mgr.star hB) hA.rot keyI Try.underlying92 hok (by unfold maxLen; omega) fun w2 h2 => ?_
  have h3 := h2.rot
  simp
  refine cl_of (at_spec m n lim f ns w2 (MgrA.rd h3) hb' hf) ?_
  rintro _ w3 ⟨rfl, k3⟩
  have h4 := h3.kp0 (hLX _) k3
  simp [ndV, en, ints]
  have hR1 : ∀ x ∈ keys (putM M f true), Ref ns x := fun x hx => by
    rcases putM_keys.1 hx with h | rfl
    · exact hR x h
    · exact hf
  refine cl_of (ih (d - 1) (by omega) (at_ n ns f).low _ w3 rl (by omega) (putM_all hM) hR1 h4) ?_
  rintro v4 w4 ⟨M2, o2, hR2, h5⟩
  simp
  refine cl_of (at_spec m n lim f ns w4 (MgrA.rd h5) hb' hf) ?_
  rintro _ w5 ⟨rfl, k5⟩
  have h6 := h5.kp0 (hLX _) k5
  simp [ndV, en, ints]
  refine cl_of (ih (d - 1) (by omega) (at_ n ns f).high _ w5 rh (by omega) o2.all hR2 h6) ?_
  rintro v6 w6 ⟨M3, o3, hR3, h7⟩
  simp
  exact ⟨M3, ROk.node hf2 (fun x => putM_keys) o2 o3, hR3, h7⟩
theorem size_spec {w w1 : World} {F : List Nat} {B : Asr} (m n lim : Nat) (ns : Ns) (f : Nat) (hB : Lcl B) (hA : At w F (Star (MgrA m n lim ns) B) w1) (hw : Wf n ns) (hb : Bnd n lim ns) (hf : Ref ns f) :
    Calls Try.prog 18 [.pointer (some ⟨m, 0, none⟩), .int .i64 (f : Nat)].toArray w1 fun e w' => ∃ x, e = .returned x ∧ ∃ L : List Nat, x = okV L.length ∧ L.Nodup ∧ (∀ y, y ∈ L ↔ Rch n ns f y) ∧ At w F (Star (MgrA m n lim ns) B) w' := by
  have hbn := hb.hn
  refine enter Try.func18 mixed low18 (Nat.le_of_ble_eq_true rfl) ?_
  simp only [L18]
  have hl : Lcl (Star (MgrA m n lim ns) B) := Lcl.mgr.star hB
  simp [rowOf]
  refine cl_of (check_lit [(f : Int)] (MgrA.rd hA) hb rfl (by simp) rfl) ?_
  rintro u w2 ⟨rfl, k2⟩
  have h2 := hA.kp0 hl k2
  have hr : [(f : Int)].all (refB ns) = true := by
    unfold Ref at hf
    simp [refB]; omega
  rw [hr]
  have h3 := (h2.newmap (ek := natV) (ev := Value.bool) (ok := i64ok) hl).rot
  simp [chkV]
  refine cl_of (reach_aux m n lim _ ns hw hb w F B hB f f [] _ hf (Nat.le_refl _) (fun q hq => by cases hq) (fun q hq => by cases hq) h3) ?_
  rintro _ w4 ⟨M', o, hR, h4⟩
  have hn := MapM.nodup h4.drop.map
  simp
  refine MapM.len2 h4.drop.map Try.underlying92 ?_
  simp
  exact ⟨keys M', by simp [okV, keys], hn, o.all_rch, h4.by (Imp.un Imp.dr)⟩
end Go.Proofs.YtkojilpjpdpmaaaR
