/-
  A part of the proof of this claim's statement (SyBE, SyZA): plain theorems; no conditions beyond those each names.
-/
import Derived.Test.YtcoeknnghfajnaaPk28
import Derived.Test.YtcoeknnghfajnaaPk09
import Derived.Test.YtcoeknnghfajnaaPk08
import Derived.HandedShaped
import Derived.Shelf.Vars
import Derived.Test.YtcoeknnghfajnaaPk26
import Derived.OpenShut
import Derived.Test.YtcoeknnghfajnaaRows
section
set_option maxRecDepth 100000
set_option linter.unusedSimpArgs false
set_option linter.unusedVariables false
namespace Go.Proofs.Ytcoeknnghfajnaa
open Go Go.W Go.Tk Go.Rx Go.Bd Go.Sy Go.Maps
/-- The task of the law. -/
def lgO (pv ev : Cell1) (n k : Nat) : No := ⟨ByteArray.empty, 0, pv, [(n - 1, 0)], ev, [⟨⟨.slice none 0 0, rfl⟩, [], n - 1, k - 1⟩]⟩
def lgT (vv nv ov pv ev : Cell1) (n k : Nat) : Nt := ⟨vv, nv, ⟨.slice none 0 0, rfl⟩, ov, List.replicate n k, List.replicate n 0, [], [lgO pv ev n k]⟩
theorem rep_getD {n k v : Nat} (h : v < n) : (List.replicate n k).getD v 0 = k := by simp [List.getD, h]
theorem lgT_g {vv nv ov pv ev : Cell1} {n k : Nat} (hn : 1 ≤ n ∧ n ≤ 64) (hk : 1 ≤ k ∧ k ≤ 64) : NtG (lgT vv nv ov pv ev n k) := by
  refine ⟨by simp [lgT]; omega, by simp [lgT], by simp [lgT]; exact fun _ => hk, by simp [lgT], fun i hi => ?_, ⟨by simp [lgT], by simp [lgT]⟩, fun o ho => ?_⟩
  · simp only [lgT, List.length_replicate] at hi
    simp [lgT, hi]
    omega
  · simp [lgT] at ho
    subst ho
    refine ⟨by simp [lgO], by simp [lgO], ⟨fun f hf => ?_, by simp [lgO]⟩, fun e he => ?_, fun e he => ?_⟩
    · simp [lgO] at hf
      subst hf
      simp only [lgT, List.length_replicate]
      rw [rep_getD (by omega)]
      omega
    · simp [lgO] at he
      subst he
      exact ⟨by simp, by simp⟩
    · simp [lgO] at he
      subst he
      simp only [lgT, List.length_replicate]
      rw [rep_getD (by omega)]
      omega
theorem lgT_good {vv nv ov pv ev : Cell1} {n k : Nat} (hn : 1 ≤ n ∧ n ≤ 64) (hk : 1 ≤ k ∧ k ≤ 64) : goodB (lgT vv nv ov pv ev n k).raw = true := by
  have ev1 : (lgT vv nv ov pv ev n k).raw.vars = List.replicate n (k : Int) := by simp [lgT, Nt.raw, iN]
  have ev2 : (lgT vv nv ov pv ev n k).raw.init = List.replicate n (0 : Int) := by simp [lgT, Nt.raw, iN]
  have hin : ∀ x : Nat, x < k → inR (List.replicate n (k : Int)) (((n - 1 : Nat) : Int), (x : Int)) = true := fun x hx => by
    have h1 : n - 1 < n := by omega
    have h2 : ((n - 1 : Nat) : Int) < n := by omega
    simp [inR, List.getD, h1, h2]
    omega
  have hop : (lgT vv nv ov pv ev n k).raw.ops = [(lgO pv ev n k).raw] := rfl
  unfold goodB
  rw [ev1, ev2, hop]
  simp only [Bool.and_eq_true]
  refine ⟨⟨⟨⟨⟨?_, ?_⟩, ?_⟩, ?_⟩, ?_⟩, ?_⟩
  · simp; omega
  · simp
  · rw [List.all_eq_true]
    intro x hx
    obtain ⟨_, rfl⟩ := List.mem_replicate.1 hx
    simp [Go.Tk.varB]
    omega
  · unfold stateB
    simp only [Bool.and_eq_true]
    refine ⟨by simp, allR_true fun j hj => ?_⟩
    simp only [List.length_replicate] at hj
    unfold stAt
    simp [List.getD, hj]
    omega
  · rfl
  · rw [List.all_cons, List.all_nil, Bool.and_true]
    have e1 : (lgO pv ev n k).raw.pre = [(((n - 1 : Nat) : Int), ((0 : Nat) : Int))] := rfl
    have e2 : (lgO pv ev n k).raw.effs = [(⟨⟨.slice none 0 0, rfl⟩, [], ((n - 1 : Nat) : Int), ((k - 1 : Nat) : Int)⟩ : Ef)] := rfl
    unfold Go.Tk.opB
    rw [e1, e2, propF_one, hin 0 (by omega), List.all_cons, List.all_nil]
    unfold effB
    rw [hin (k - 1) (by omega)]
    rfl
theorem lgT_l {vv nv ov pv ev : Cell1} {n k : Nat} (hn : 1 ≤ n ∧ n ≤ 64) : TkL (lgT vv nv ov pv ev n k).raw := by
  refine ⟨by simp [lgT, Nt.raw]; omega, by simp [lgT, Nt.raw], by simp [lgT, Nt.raw], by simp [lgT, Nt.raw]; omega, fun o ho => ?_⟩
  have : o = (lgO pv ev n k).raw := by simpa [lgT, Nt.raw] using ho
  subst this
  exact ⟨by simp [lgO, No.raw], by simp [lgO, No.raw], by simp [lgO, No.raw], fun e he => by
    simp [lgO, No.raw, Nf.raw] at he
    subst he
    simp⟩
theorem lgT_nb {vv nv ov pv ev : Cell1} {n k : Nat} : nBits (lgT vv nv ov pv ev n k).vars = n * wd k := by simp [lgT, nBits]
theorem lgO_nc {pv ev : Cell1} {n k : Nat} : NoC (lgO pv ev n k) := fun x hx => by
  simp [lgO] at hx
  subst hx
  rfl
theorem lg_s : ∀ n, n < 65 → ∀ k, k < 65 → n * wd k ≤ 100 → n * k ≤ 1024 := by decide +kernel
theorem lg_num {b n S f R : Nat} (hb : b ≤ 100) (hn : n ≤ 64) (hS : S ≤ 1024) (hf : f = (3 * b + 4) * (3 * b)) (hR : R = n * ((26 + 1 * 11) * 18) + (n + (1 * 7 + 1)) * (3 * b)) :
    (2 * b * 2 + (S * 172 + n * (S * 2)) + b * (3 * b)) + (0 + S * 128 + n * (3 * b) + (R + (3 * b + (f + f))) + (R + (f + (3 * b + (f + 3 * b))))) < 1048576 := by
  have h1 : n * (S * 2) ≤ 64 * 2048 := Nat.mul_le_mul hn (by omega)
  have h2 : b * (3 * b) ≤ 100 * 300 := Nat.mul_le_mul hb (by omega)
  have h3 : n * (3 * b) ≤ 64 * 300 := Nat.mul_le_mul hn (by omega)
  have h4 : (3 * b + 4) * (3 * b) ≤ 304 * 300 := Nat.mul_le_mul (by omega) (by omega)
  have h5 : (n + (1 * 7 + 1)) * (3 * b) ≤ 72 * 300 := Nat.mul_le_mul (by omega) (by omega)
  omega
theorem Alk.nc {T T' : Nt} (h : Alk T T') {i : Nat} {o o' : No} (ho : T.ops[i]? = some o) (ho' : T'.ops[i]? = some o') (hn : NoC o) : NoC o' := by
  have := congrArg (fun l => l[i]?) h.ops
  simp only [List.getElem?_map, ho, ho', Option.map_some, Option.some.injEq] at this
  unfold skO at this
  simp only [Prod.mk.injEq] at this
  intro x hx
  have hm : skE x ∈ o.effs.map skE := by rw [← this.2.2.2]; exact List.mem_map.2 ⟨x, hx, rfl⟩
  obtain ⟨y, hy, e⟩ := List.mem_map.1 hm
  unfold skE at e
  simp only [Prod.mk.injEq] at e
  rw [← e.1]
  exact hn y hy
def TtI (M k i : Nat) (ρ : Env) : Prop := ∃ y : Nat, ρ 11 = .int .i64 (y : Nat) ∧ y ≤ M * 64 ∧ (y ≤ M → y = k ^ i) ∧ (M < y → M < k ^ i)
theorem bas_alk {T T' : Nt} (h : T'.vars = T.vars) : BasS T' = BasS T ∧ nb T' = nb T := by
  unfold BasS NewS nb
  rw [h]
  exact ⟨rfl, rfl⟩
def LgI (tb n k b : Nat) (ov : Value) (X : Asr) (w : World) (z : Nat) (ρ : Env) (w' : World) : Prop :=
  ρ 5 = .int .i64 (n : Nat) ∧ ρ 6 = .int .i64 (k : Nat) ∧ ρ 7 = .int .i64 (b : Nat) ∧ ρ 8 = .pointer (some ⟨tb, 0, none⟩) ∧ ∃ vv nv, At w [] (Star (ObjA tb (.cells #[vv, nv, .slice none 0 0, ov] 26 (0, 0))) (Star (OwnA vv 3 1 nE (List.replicate z k)) (Star (OwnA nv 3 1 nE (List.replicate z 0)) X))) w'
set_option maxHeartbeats 2000000 in
theorem law_slarge {w : World} (a b : Nat) (ha : a ≤ 255) (hb : b ≤ 255) :
    Calls Try.prog 6 [.int .u8 (a : Nat), .int .u8 (b : Nat)].toArray w fun e w' => ∃ x, e = .returned x ∧ x = .bool true ∧ Kp [] w w' := by
  refine enter Try.func6 mixed low6 (Nat.le_of_ble_eq_true rfl) ?_
  simp only [L6]
  have hE : Lcl Emp := Lcl.emp
  have h0 : At w [] Emp w := At.start rfl
  simp
  refine cl_of (awake_spec hE h0) ?_
  rintro _ w1 ⟨rfl, h1⟩
  obtain ⟨a1, ha1⟩ : ∃ a1, a1 = a % 64 := ⟨_, rfl⟩
  obtain ⟨b1, hb1⟩ : ∃ b1, b1 = b % 64 := ⟨_, rfl⟩
  obtain ⟨n, hn⟩ : ∃ n, n = a1 + 1 := ⟨_, rfl⟩
  obtain ⟨k, hk⟩ : ∃ k, k = b1 + 1 := ⟨_, rfl⟩
  have ec : ∀ (x : Nat), x ≤ 255 → ∀ K : Kont Value, @cnvH Try.prog 5 3 (.int .u8 (x : Nat)) K = K.run (.int .i64 (x : Nat)) := fun x hx K => by
    rw [cnvS_i]
    simp [wrap_i64 (n := (x : Nat)) (by omega) (by omega)]
  have era : ∀ K : Kont Value, @intH .rem .i64 ((a : Nat) : Int) .i64 64 K = K.run (.int .i64 (a1 : Nat)) := fun K => by
    rw [intS_rem, ha1]
    simp
    rfl
  have erb : ∀ K : Kont Value, @intH .rem .i64 ((b : Nat) : Int) .i64 64 K = K.run (.int .i64 (b1 : Nat)) := fun K => by
    rw [intS_rem, hb1]
    simp
    rfl
  have hn1 : ((a1 : Nat) : Int) + 1 = (n : Int) := by omega
  have hk1 : ((b1 : Nat) : Int) + 1 = (k : Int) := by omega
  have eaa : ∀ K : Kont Value, @intH .add .i64 ((a1 : Nat) : Int) .i64 1 K = K.run (.int .i64 (n : Nat)) := fun K => by rw [intS_add, hn1, wrap_i64 (by omega) (by omega)]
  have eab : ∀ K : Kont Value, @intH .add .i64 ((b1 : Nat) : Int) .i64 1 K = K.run (.int .i64 (k : Nat)) := fun K => by rw [intS_add, hk1, wrap_i64 (by omega) (by omega)]
  have hn64 : 1 ≤ n ∧ n ≤ 64 := by omega
  have hk64 : 1 ≤ k ∧ k ≤ 64 := by omega
  simp [-intS_add, -intS_rem, -cnvS_i, ec a ha, ec b hb, era, erb, eaa, eab]
  clear ec era erb eaa eab hn1 hk1
  have hw6 := wd_le k
  refine loop_inv (fun j ρ' w' => w' = w1 ∧ ∃ x, x + j = wd k ∧ ρ' 7 = .int .i64 (x : Nat) ∧ ρ' 5 = .int .i64 (n : Nat) ∧ ρ' 6 = .int .i64 (k : Nat)) (wd k) ⟨rfl, 0, by simp, by simp, by simp, by simp⟩ ?_
  rintro j ρ v1 ⟨rfl, x, hx, e7, e5, e6⟩
  have hsh := shl_one (k := x) (by omega)
  have hlo := wd_loop (n := k) (w := x) (by omega) (by omega)
  obtain ⟨y, hy⟩ : ∃ y, y = 2 ^ x := ⟨_, rfl⟩
  rw [← hy] at hsh hlo
  by_cases hj0 : j ≠ 0
  · have hxw : y < k := by rw [hlo]; omega
    simp (disch := omega) [e7, e6, hsh, hxw, wrap_i64]

    exact ⟨j - 1, by omega, x + 1, by omega, by simp, e5⟩
  have hxw : ¬ y < k := by rw [hlo]; omega
  have hxk : x = wd k := by omega
  obtain ⟨n1, hn1⟩ : ∃ n1, n1 = n - 1 := ⟨_, rfl⟩
  obtain ⟨k1, hk1⟩ : ∃ k1, k1 = k - 1 := ⟨_, rfl⟩
  have hni : ((n : Nat) : Int) - 1 = (n1 : Int) := by omega
  have hki : ((k : Nat) : Int) - 1 = (k1 : Int) := by omega
  have en : ∀ K : Kont Value, @intH .sub .i64 ((n : Nat) : Int) .i64 1 K = K.run (.int .i64 (n1 : Nat)) := fun K => by rw [intS_sub, hni, wrap_i64 (by omega) (by omega)]
  have ek : ∀ K : Kont Value, @intH .sub .i64 ((k : Nat) : Int) .i64 1 K = K.run (.int .i64 (k1 : Nat)) := fun K => by rw [intS_sub, hki, wrap_i64 (by omega) (by omega)]
  simp [-intS_sub, e7, e6, e5, hsh, hxw, rowOf, en, ek]
  have e0 : ∀ (w : World) (o : Obj), (w.alloc o).heap.size = w.heap.size + 1 := fun w o => by simp
  obtain ⟨rb, hrb⟩ : ∃ rb, rb = v1.heap.size := ⟨_, rfl⟩
  obtain ⟨pv, hpv⟩ : ∃ pv, pv = Value.slice (some ⟨rb, 0, none⟩) 1 1 := ⟨_, rfl⟩
  obtain ⟨ev, hev⟩ : ∃ ev, ev = Value.slice (some ⟨rb + 1, 0, none⟩) 1 1 := ⟨_, rfl⟩
  obtain ⟨ov, hov⟩ : ∃ ov, ov = Value.slice (some ⟨rb + 1 + 1, 0, none⟩) 1 1 := ⟨_, rfl⟩
  obtain ⟨tb, htb⟩ : ∃ tb, tb = rb + 1 + 1 + 1 := ⟨_, rfl⟩
  have o3 : oneC pv = true := by rw [hpv]; rfl
  have o5 : oneC ev = true := by rw [hev]; rfl
  have o6 : oneC ov = true := by rw [hov]; rfl
  have a1 := h1.lit (xs := [((n1, 0) : Go.Tk.Fc)]) (enc := fcE) (E := 45) (sz := 2) (cs := #[.int .i64 (n1 : Nat), .int .i64 0]) (m := 1) hE (by simp [fcE]) fcE_len (by simp [maxLen]) rfl
  rw [← hrb, ← hpv] at a1
  have a2 := a1.lit (xs := [(⟨⟨.slice none 0 0, rfl⟩, [], n1, k1⟩ : Nf)]) (enc := nfE) (E := 66) (sz := 3) (cs := #[.slice none 0 0, .int .i64 (n1 : Nat), .int .i64 (k1 : Nat)]) (m := 1) (Lcl.own.star hE) (by simp [nfE]) nfE_len (by simp [maxLen]) rfl
  rw [e0, ← hrb, ← hev] at a2
  have a3 := a2.lit (xs := [lgO ⟨pv, o3⟩ ⟨ev, o5⟩ n k]) (enc := noE) (E := 57) (sz := 4) (cs := #[.string ByteArray.empty, .int .i64 0, pv, ev]) (m := 1) (Lcl.own.star (Lcl.own.star hE)) (by simp [noE, lgO]) noE_len (by simp [maxLen]) rfl
  rw [e0, e0, ← hrb, ← hov] at a3
  have hL3 : Lcl (Star (OwnA ov 57 4 noE [lgO ⟨pv, o3⟩ ⟨ev, o5⟩ n k]) (Star (OwnA ev 66 3 nfE [(⟨⟨.slice none 0 0, rfl⟩, [], n1, k1⟩ : Nf)]) (Star (OwnA pv 45 2 fcE [((n1, 0) : Go.Tk.Fc)]) Emp))) := Lcl.own.star (Lcl.own.star (Lcl.own.star hE))
  obtain ⟨X, hX⟩ : ∃ X, X = (Star (OwnA ov 57 4 noE [lgO ⟨pv, o3⟩ ⟨ev, o5⟩ n k]) (Star (OwnA ev 66 3 nfE [(⟨⟨.slice none 0 0, rfl⟩, [], n1, k1⟩ : Nf)]) (Star (OwnA pv 45 2 fcE [((n1, 0) : Go.Tk.Fc)]) Emp))) := ⟨_, rfl⟩
  rw [← hX] at a3 hL3
  have a4 := a3.alloc (.cells #[.slice none 0 0, .slice none 0 0, .slice none 0 0, .slice none 0 0] 26 (0, 0)) hL3
  rw [e0, e0, e0, ← hrb, ← htb] at a4
  rw [← hrb, ← hpv, ← hev, ← hov, ← htb]
  refine a4.st hL3 (by simp) (by simp [o6]) fun v5 h5 => ?_
  simp at h5
  have h6 := ((h5.nil (E := 3) (sz := 1) (enc := nE) (Lcl.obj.star hL3)).nil (E := 3) (sz := 1) (enc := nE) (Lcl.own.star (Lcl.obj.star hL3))).by Imp.fr3
  simp only [↓wpT_nil, put_none, merge_nil, rangeQ_nrm]
  simp [e5, e6, e7]
  refine range_loop (n := n) (by omega) (LgI tb n k (wd k) ov X w) (by simp) (by simp)
    ⟨by simp [e5], by simp [e6], by simp [e7, hxk], by simp, .slice none 0 0, .slice none 0 0, by simpa using h6⟩ (by decide) (fun _ _ _ _ h => by unfold LgI at h ⊢; simpa using h) (fun _ _ _ _ h => by unfold LgI at h ⊢; simpa using h) ?_ ?_
  · rintro z ρ w9 hz hcz hlz ⟨g5, g6, g7, g8, vv, nv, h9⟩
    have h9d := h9.drew (Lcl.obj.star (Lcl.own.star (Lcl.own.star hL3)))
    have os9 := h9d.obj
    simp [g5, g6, g8, cell_blk os9, rowOf]
    refine ⟨?_, ?_, ?_, ?_, ?_, ?_⟩
    · have q1 := h9d.lit (xs := [k]) (enc := nE) (E := 3) (sz := 1) (cs := #[.int .i64 (k : Nat)]) (m := 1) (by repeat' (first | exact hL3 | exact Lcl.own | exact Lcl.obj | apply Lcl.star)) (by simp [nE]) nE_len (by simp [maxLen]) rfl
      refine At.appendV (by repeat' (first | exact hL3 | exact Lcl.own | exact Lcl.obj | apply Lcl.star)) (q1.by Imp.fr3) q1.own.vw nE_len nE_one sl_22 (by simp; omega) (by simp; unfold maxLen; omega) fun vv' w10 h10 => ?_
      have h10 := h10.by (Imp.un Imp.dr)
      have os10 := h10.drop.obj
      simp [g5, g6, g8, cell_blk os10, rowOf]
      have q2 := h10.lit (xs := [0]) (enc := nE) (E := 3) (sz := 1) (cs := #[.int .i64 0]) (m := 1) (by repeat' (first | exact hL3 | exact Lcl.own | exact Lcl.obj | apply Lcl.star)) (by simp [nE]) nE_len (by simp [maxLen]) rfl
      refine At.appendV (by repeat' (first | exact hL3 | exact Lcl.own | exact Lcl.obj | apply Lcl.star)) (q2.by Imp.fr4) q2.own.vw nE_len nE_one sl_22 (by simp; omega) (by simp; unfold maxLen; omega) fun nv' w11 h11 => ?_
      have h12 := (((h11.by (Imp.un Imp.dr)).by Imp.fr3)).by (Imp.un Imp.sw)
      have v1 := h12.drop.own.c1
      have o1 := h12.drop.own.o1
      have v2 := h12.drop.drop.own.c1
      have o2 := h12.drop.drop.own.o1
      simp [g8, v1]
      refine h12.st (by repeat' (first | exact hL3 | exact Lcl.own | exact Lcl.obj | apply Lcl.star)) (by simp) (by simp [o1, o6]) fun w13 h13 => ?_
      simp at h13
      simp [g8, v2]
      refine h13.st (by repeat' (first | exact hL3 | exact Lcl.own | exact Lcl.obj | apply Lcl.star)) (by simp) (by simp [o1, o2, o6]) fun w14 h14 => ?_
      simp at h14
      simp only [↓wpT_nil, put_none, merge_nil, rangeQ_nrm]
      simp [g5, g6, g7, g8, hcz, hlz]
      refine ⟨by simp [g5], by simp [g6], by simp [g7], by simp [g8], vv', nv', ?_⟩
      rw [List.replicate_succ', List.replicate_succ']
      exact h14
    · have q1 := h9d.lit (xs := [k]) (enc := nE) (E := 3) (sz := 1) (cs := #[.int .i64 (k : Nat)]) (m := 1) (by repeat' (first | exact hL3 | exact Lcl.own | exact Lcl.obj | apply Lcl.star)) (by simp [nE]) nE_len (by simp [maxLen]) rfl
      have q2 := q1.lit (xs := [0]) (enc := nE) (E := 3) (sz := 1) (cs := #[.int .i64 0]) (m := 1) (by repeat' (first | exact hL3 | exact Lcl.own | exact Lcl.obj | apply Lcl.star)) (by simp [nE]) nE_len (by simp [maxLen]) rfl
      simp only [e0] at q2
      refine At.appendV (by repeat' (first | exact hL3 | exact Lcl.own | exact Lcl.obj | apply Lcl.star)) (q2.by Imp.fr4) q2.drop.own.vw nE_len nE_one sl_22 (by simp; omega) (by simp; unfold maxLen; omega) fun vv' w10 h10 => ?_
      have os10 := h10.drop.drop.drop.obj
      simp [g5, g6, g8, cell_blk os10, rowOf]
      refine At.appendV (by repeat' (first | exact hL3 | exact Lcl.own | exact Lcl.obj | apply Lcl.star)) (h10.by Imp.fr5) h10.drop.own.vw nE_len nE_one sl_22 (by simp; omega) (by simp; unfold maxLen; omega) fun nv' w11 h11 => ?_
      have h12 := ((h11.by (Imp.un (Imp.un (Imp.trans Imp.dr Imp.dr)))).by Imp.fr3).by (Imp.un Imp.sw)
      have v1 := h12.drop.own.c1
      have o1 := h12.drop.own.o1
      have v2 := h12.drop.drop.own.c1
      have o2 := h12.drop.drop.own.o1
      simp [g8, v1]
      refine h12.st (by repeat' (first | exact hL3 | exact Lcl.own | exact Lcl.obj | apply Lcl.star)) (by simp) (by simp [o1, o6]) fun w13 h13 => ?_
      simp at h13
      simp [g8, v2]
      refine h13.st (by repeat' (first | exact hL3 | exact Lcl.own | exact Lcl.obj | apply Lcl.star)) (by simp) (by simp [o1, o2, o6]) fun w14 h14 => ?_
      simp at h14
      simp only [↓wpT_nil, put_none, merge_nil, rangeQ_nrm]
      simp [g5, g6, g7, g8, hcz, hlz]
      refine ⟨by simp [g5], by simp [g6], by simp [g7], by simp [g8], vv', nv', ?_⟩
      rw [List.replicate_succ', List.replicate_succ']
      exact h14
    · have q1 := h9d.lit (xs := [0]) (enc := nE) (E := 3) (sz := 1) (cs := #[.int .i64 0]) (m := 1) (by repeat' (first | exact hL3 | exact Lcl.own | exact Lcl.obj | apply Lcl.star)) (by simp [nE]) nE_len (by simp [maxLen]) rfl
      have q2 := q1.lit (xs := [k]) (enc := nE) (E := 3) (sz := 1) (cs := #[.int .i64 (k : Nat)]) (m := 1) (by repeat' (first | exact hL3 | exact Lcl.own | exact Lcl.obj | apply Lcl.star)) (by simp [nE]) nE_len (by simp [maxLen]) rfl
      simp only [e0] at q2
      refine At.appendV (by repeat' (first | exact hL3 | exact Lcl.own | exact Lcl.obj | apply Lcl.star)) (q2.by Imp.fr4) q2.own.vw nE_len nE_one sl_22 (by simp; omega) (by simp; unfold maxLen; omega) fun vv' w10 h10 => ?_
      have os10 := h10.drop.drop.drop.obj
      simp [g5, g6, g8, cell_blk os10, rowOf]
      refine At.appendV (by repeat' (first | exact hL3 | exact Lcl.own | exact Lcl.obj | apply Lcl.star)) (h10.by Imp.fr5) h10.drop.drop.own.vw nE_len nE_one sl_22 (by simp; omega) (by simp; unfold maxLen; omega) fun nv' w11 h11 => ?_
      have h12 := ((h11.by (Imp.un (Imp.un (Imp.trans Imp.dr Imp.dr)))).by Imp.fr3).by (Imp.un Imp.sw)
      have v1 := h12.drop.own.c1
      have o1 := h12.drop.own.o1
      have v2 := h12.drop.drop.own.c1
      have o2 := h12.drop.drop.own.o1
      simp [g8, v1]
      refine h12.st (by repeat' (first | exact hL3 | exact Lcl.own | exact Lcl.obj | apply Lcl.star)) (by simp) (by simp [o1, o6]) fun w13 h13 => ?_
      simp at h13
      simp [g8, v2]
      refine h13.st (by repeat' (first | exact hL3 | exact Lcl.own | exact Lcl.obj | apply Lcl.star)) (by simp) (by simp [o1, o2, o6]) fun w14 h14 => ?_
      simp at h14
      simp only [↓wpT_nil, put_none, merge_nil, rangeQ_nrm]
      simp [g5, g6, g7, g8, hcz, hlz]
      refine ⟨by simp [g5], by simp [g6], by simp [g7], by simp [g8], vv', nv', ?_⟩
      rw [List.replicate_succ', List.replicate_succ']
      exact h14
    · have q1 := h9d.lit (xs := [k]) (enc := nE) (E := 3) (sz := 1) (cs := #[.int .i64 (k : Nat)]) (m := 1) (by repeat' (first | exact hL3 | exact Lcl.own | exact Lcl.obj | apply Lcl.star)) (by simp [nE]) nE_len (by simp [maxLen]) rfl
      refine At.appendV (by repeat' (first | exact hL3 | exact Lcl.own | exact Lcl.obj | apply Lcl.star)) (q1.by Imp.fr3) q1.own.vw nE_len nE_one sl_22 (by simp; omega) (by simp; unfold maxLen; omega) fun vv' w10 h10 => ?_
      have h10 := h10.by (Imp.un Imp.dr)
      have os10 := h10.drop.obj
      simp [g5, g6, g8, cell_blk os10, rowOf]
      have q2 := h10.lit (xs := [0]) (enc := nE) (E := 3) (sz := 1) (cs := #[.int .i64 0]) (m := 1) (by repeat' (first | exact hL3 | exact Lcl.own | exact Lcl.obj | apply Lcl.star)) (by simp [nE]) nE_len (by simp [maxLen]) rfl
      refine At.appendV (by repeat' (first | exact hL3 | exact Lcl.own | exact Lcl.obj | apply Lcl.star)) (q2.by Imp.fr4) q2.own.vw nE_len nE_one sl_22 (by simp; omega) (by simp; unfold maxLen; omega) fun nv' w11 h11 => ?_
      have h12 := (((h11.by (Imp.un Imp.dr)).by Imp.fr3)).by (Imp.un Imp.sw)
      have v1 := h12.drop.own.c1
      have o1 := h12.drop.own.o1
      have v2 := h12.drop.drop.own.c1
      have o2 := h12.drop.drop.own.o1
      simp [g8, v1]
      refine h12.st (by repeat' (first | exact hL3 | exact Lcl.own | exact Lcl.obj | apply Lcl.star)) (by simp) (by simp [o1, o6]) fun w13 h13 => ?_
      simp at h13
      simp [g8, v2]
      refine h13.st (by repeat' (first | exact hL3 | exact Lcl.own | exact Lcl.obj | apply Lcl.star)) (by simp) (by simp [o1, o2, o6]) fun w14 h14 => ?_
      simp at h14
      simp only [↓wpT_nil, put_none, merge_nil, rangeQ_nrm]
      simp [g5, g6, g7, g8, hcz, hlz]
      refine ⟨by simp [g5], by simp [g6], by simp [g7], by simp [g8], vv', nv', ?_⟩
      rw [List.replicate_succ', List.replicate_succ']
      exact h14
    · have q1 := h9d.lit (xs := [k]) (enc := nE) (E := 3) (sz := 1) (cs := #[.int .i64 (k : Nat)]) (m := 1) (by repeat' (first | exact hL3 | exact Lcl.own | exact Lcl.obj | apply Lcl.star)) (by simp [nE]) nE_len (by simp [maxLen]) rfl
      have q2 := q1.lit (xs := [0]) (enc := nE) (E := 3) (sz := 1) (cs := #[.int .i64 0]) (m := 1) (by repeat' (first | exact hL3 | exact Lcl.own | exact Lcl.obj | apply Lcl.star)) (by simp [nE]) nE_len (by simp [maxLen]) rfl
      simp only [e0] at q2
      refine At.appendV (by repeat' (first | exact hL3 | exact Lcl.own | exact Lcl.obj | apply Lcl.star)) (q2.by Imp.fr4) q2.drop.own.vw nE_len nE_one sl_22 (by simp; omega) (by simp; unfold maxLen; omega) fun vv' w10 h10 => ?_
      have os10 := h10.drop.drop.drop.obj
      simp [g5, g6, g8, cell_blk os10, rowOf]
      refine At.appendV (by repeat' (first | exact hL3 | exact Lcl.own | exact Lcl.obj | apply Lcl.star)) (h10.by Imp.fr5) h10.drop.own.vw nE_len nE_one sl_22 (by simp; omega) (by simp; unfold maxLen; omega) fun nv' w11 h11 => ?_
      have h12 := ((h11.by (Imp.un (Imp.un (Imp.trans Imp.dr Imp.dr)))).by Imp.fr3).by (Imp.un Imp.sw)
      have v1 := h12.drop.own.c1
      have o1 := h12.drop.own.o1
      have v2 := h12.drop.drop.own.c1
      have o2 := h12.drop.drop.own.o1
      simp [g8, v1]
      refine h12.st (by repeat' (first | exact hL3 | exact Lcl.own | exact Lcl.obj | apply Lcl.star)) (by simp) (by simp [o1, o6]) fun w13 h13 => ?_
      simp at h13
      simp [g8, v2]
      refine h13.st (by repeat' (first | exact hL3 | exact Lcl.own | exact Lcl.obj | apply Lcl.star)) (by simp) (by simp [o1, o2, o6]) fun w14 h14 => ?_
      simp at h14
      simp only [↓wpT_nil, put_none, merge_nil, rangeQ_nrm]
      simp [g5, g6, g7, g8, hcz, hlz]
      refine ⟨by simp [g5], by simp [g6], by simp [g7], by simp [g8], vv', nv', ?_⟩
      rw [List.replicate_succ', List.replicate_succ']
      exact h14
    · have q1 := h9d.lit (xs := [0]) (enc := nE) (E := 3) (sz := 1) (cs := #[.int .i64 0]) (m := 1) (by repeat' (first | exact hL3 | exact Lcl.own | exact Lcl.obj | apply Lcl.star)) (by simp [nE]) nE_len (by simp [maxLen]) rfl
      have q2 := q1.lit (xs := [k]) (enc := nE) (E := 3) (sz := 1) (cs := #[.int .i64 (k : Nat)]) (m := 1) (by repeat' (first | exact hL3 | exact Lcl.own | exact Lcl.obj | apply Lcl.star)) (by simp [nE]) nE_len (by simp [maxLen]) rfl
      simp only [e0] at q2
      refine At.appendV (by repeat' (first | exact hL3 | exact Lcl.own | exact Lcl.obj | apply Lcl.star)) (q2.by Imp.fr4) q2.own.vw nE_len nE_one sl_22 (by simp; omega) (by simp; unfold maxLen; omega) fun vv' w10 h10 => ?_
      have os10 := h10.drop.drop.drop.obj
      simp [g5, g6, g8, cell_blk os10, rowOf]
      refine At.appendV (by repeat' (first | exact hL3 | exact Lcl.own | exact Lcl.obj | apply Lcl.star)) (h10.by Imp.fr5) h10.drop.drop.own.vw nE_len nE_one sl_22 (by simp; omega) (by simp; unfold maxLen; omega) fun nv' w11 h11 => ?_
      have h12 := ((h11.by (Imp.un (Imp.un (Imp.trans Imp.dr Imp.dr)))).by Imp.fr3).by (Imp.un Imp.sw)
      have v1 := h12.drop.own.c1
      have o1 := h12.drop.own.o1
      have v2 := h12.drop.drop.own.c1
      have o2 := h12.drop.drop.own.o1
      simp [g8, v1]
      refine h12.st (by repeat' (first | exact hL3 | exact Lcl.own | exact Lcl.obj | apply Lcl.star)) (by simp) (by simp [o1, o6]) fun w13 h13 => ?_
      simp at h13
      simp [g8, v2]
      refine h13.st (by repeat' (first | exact hL3 | exact Lcl.own | exact Lcl.obj | apply Lcl.star)) (by simp) (by simp [o1, o2, o6]) fun w14 h14 => ?_
      simp at h14
      simp only [↓wpT_nil, put_none, merge_nil, rangeQ_nrm]
      simp [g5, g6, g7, g8, hcz, hlz]
      refine ⟨by simp [g5], by simp [g6], by simp [g7], by simp [g8], vv', nv', ?_⟩
      rw [List.replicate_succ', List.replicate_succ']
      exact h14
  rintro ρ w9 ⟨g5, g6, g7, g8, vv, nv, h9⟩
  have o1 := h9.drop.own.o1
  have o2 := h9.drop.drop.own.o1
  have os9 := h9.obj
  obtain ⟨T, hT⟩ : ∃ T, T = lgT ⟨vv, o1⟩ ⟨nv, o2⟩ ⟨ov, o6⟩ ⟨pv, o3⟩ ⟨ev, o5⟩ n k := ⟨_, rfl⟩
  obtain ⟨B, hB⟩ : ∃ B, B = Star (ObjA tb (.cells #[vv, nv, .slice none 0 0, ov] 26 (0, 0))) (Star (OwnA vv 3 1 nE (List.replicate n k)) (Star (OwnA nv 3 1 nE (List.replicate n 0)) X)) := ⟨_, rfl⟩
  have hLB : Lcl B := by rw [hB]; exact Lcl.obj.star (Lcl.own.star (Lcl.own.star hL3))
  have rT : Rds B fun w' => w'.heap[tb]? = some (.cells #[vv, nv, .slice none 0 0, ov] 26 (0, 0)) := by rw [hB]; exact Rds.obj
  have rV : Rds B fun w' => Vw w' nv nE (List.replicate n 0) := by rw [hB]; exact Rds.star (Rds.star Rds.own)
  have rN : Rds B fun w' => NtR w' T := fun w' F' hs => by
    have q1 : Vw w' vv nE (List.replicate n k) := (show Rds B fun w' => Vw w' vv nE (List.replicate n k) by rw [hB]; exact Rds.star Rds.own) w' F' hs
    have q2 := rV w' F' hs
    have q3 : Vw w' ov noE [lgO ⟨pv, o3⟩ ⟨ev, o5⟩ n k] := (show Rds B fun w' => Vw w' ov noE [lgO ⟨pv, o3⟩ ⟨ev, o5⟩ n k] by rw [hB, hX]; exact Rds.star (Rds.star (Rds.star Rds.own))) w' F' hs
    have q4 : Vw w' ev nfE [(⟨⟨.slice none 0 0, rfl⟩, [], n1, k1⟩ : Nf)] := (show Rds B fun w' => Vw w' ev nfE [(⟨⟨.slice none 0 0, rfl⟩, [], n1, k1⟩ : Nf)] by rw [hB, hX]; exact Rds.star (Rds.star (Rds.star (Rds.star Rds.own)))) w' F' hs
    have q5 : Vw w' pv fcE [((n1, 0) : Go.Tk.Fc)] := (show Rds B fun w' => Vw w' pv fcE [((n1, 0) : Go.Tk.Fc)] by rw [hB, hX]; exact Rds.star (Rds.star (Rds.star (Rds.star (Rds.star Rds.own))))) w' F' hs
    rw [hT]
    refine ⟨q1, q2, Vw.nil _ _, q3, fun o ho => ?_⟩
    simp [lgT] at ho
    subst ho
    refine ⟨by rw [hn1] at q5; exact q5, by rw [hn1, hk1] at q4; exact q4, fun e he => ?_⟩
    simp [lgO] at he
    subst he
    exact Vw.nil _ _
  rw [← hB] at h9
  have hr9 := rd_tk (t := T.raw) (by rw [hT]; exact os9)
  simp [g8, hr9]
  have hl : TkL T.raw := by rw [hT]; exact lgT_l hn64
  refine cl_of (snew_spec T 1048576 hLB h9 rN (by rw [hT]; exact lgT_g hn64 hk64) (by rw [hT]; exact lgT_good hn64 hk64) hl (by omega) (by omega) (newW (W := BasS T) fun G h => .inl h)) ?_
  rintro _ w10 hnew
  have hbits : nBits T.vars = n * wd k := by rw [hT]; exact lgT_nb
  obtain ⟨m, hm⟩ : ∃ m, m = n * wd k := ⟨_, rfl⟩
  rw [← hm] at hbits
  have hml : m ≤ 64 * 6 := by rw [hm]; exact Nat.mul_le_mul (by omega) hw6
  have hmi : ((n : Nat) : Int) * ((wd k : Nat) : Int) = (m : Int) := by rw [hm]; exact (Int.natCast_mul _ _).symm
  have em : ∀ K : Kont Value, @intH .mul .i64 ((n : Nat) : Int) .i64 ((wd k : Nat) : Int) K = K.run (.int .i64 (m : Nat)) := fun K => by rw [intS_mul, hmi, wrap_i64 (by omega) (by omega)]
  rcases hnew with ⟨hbig, rfl, h10⟩ | ⟨hbit, e, ns, hs, hnew⟩
  · rw [hbits] at hbig
    have hbi : (100 : Int) < (m : Int) := by omega
    simp [-intS_mul, g5, g7, em, hbi]
    refine cl_of (is_err 5 5 w10) ?_
    rintro _ w11 ⟨rfl, k11⟩
    simp
    exact (h10.kp0 hLB k11).kp
  have hT1 : T.vars = List.replicate n k := by rw [hT]; rfl
  have hvar : ∀ x ∈ T.vars, 1 ≤ x ∧ x ≤ 64 := fun x hx => by
    rw [hT1] at hx
    obtain ⟨_, rfl⟩ := List.mem_replicate.1 hx
    exact hk64
  have hvl : T.vars.length = n := by rw [hT1]; simp
  have hsum : T.vars.sum = n * k := by rw [hT1]; simp
  have hS : n * k ≤ 1024 := lg_s n (by omega) k (by omega) (by rw [← hm]; omega)
  obtain ⟨fF, hfF⟩ : ∃ f, f = (3 * m + 4) * (3 * m) := ⟨_, rfl⟩
  obtain ⟨R, hR⟩ : ∃ R, R = n * ((26 + 1 * 11) * 18) + (n + (1 * 7 + 1)) * (3 * m) := ⟨_, rfl⟩
  have hnum := lg_num (b := m) (n := n) (S := n * k) (by omega) (by omega) hS hfF hR
  have hnb : nbL T = 2 * m * 2 + (n * k * 172 + n * (n * k * 2)) + m * (3 * m) := by unfold nbL; rw [hbits, hvl, hsum]
  obtain ⟨rfl, hr0⟩ := RunB.start (cov_basL hvar) hs (by rw [hnb]; omega)
  rcases hnew with ⟨h, _⟩ | ⟨_, s, mm, T', q, hA, rfl, hG, h10⟩
  · cases h
  have hbi : ¬ (100 : Int) < (m : Int) := by omega
  simp [-intS_mul, g5, g7, em, hbi]
  have ek1 : 1 ≤ k := hk64.1
  obtain ⟨M, hM⟩ : ∃ M, M = 1099511627776 := ⟨_, rfl⟩
  have hMi : (1099511627776 : Int) = ((M : Nat) : Int) := by rw [hM]; rfl
  refine range_loop (n := n) (by omega) (fun i ρ w' => w' = w10 ∧ ρ 5 = .int .i64 (n : Nat) ∧ ρ 6 = .int .i64 (k : Nat) ∧ ρ 8 = .pointer (some ⟨tb, 0, none⟩) ∧ ρ 9 = .pointer (some ⟨s, 0, none⟩) ∧ TtI M k i ρ) (by simp) (by simp)
    ⟨rfl, by simp [g5], by simp [g6], by simp [g8], by simp, 1, by simp, by omega, by simp, by omega⟩ (by decide) (fun _ _ _ _ h => by unfold TtI at h ⊢; simpa using h) (fun _ _ _ _ h => by unfold TtI at h ⊢; simpa using h) ?_ ?_
  · rintro i ρ v10 hi hci hli ⟨rfl, g5, g6, g8, g9, y, g11, hy1, hy2, hy3⟩
    by_cases hy : y ≤ M
    · have hyi : (y : Int) ≤ 1099511627776 := by omega
      obtain ⟨z, hz⟩ : ∃ z, z = y * k := ⟨_, rfl⟩
      have hzl : z ≤ M * 64 := by rw [hz]; exact Nat.mul_le_mul hy (by omega)
      have hzi : ((y : Nat) : Int) * ((k : Nat) : Int) = (z : Int) := by rw [hz]; exact (Int.natCast_mul _ _).symm
      have ez : ∀ K : Kont Value, @intH .mul .i64 ((y : Nat) : Int) .i64 ((k : Nat) : Int) K = K.run (.int .i64 (z : Nat)) := fun K => by rw [intS_mul, hzi, wrap_i64 (by omega) (by omega)]
      simp [-intS_mul, g11, hyi, g5, g6, g8, g9, ez, hci, hli]
      refine ⟨z, by simp, hzl, fun h => ?_, fun h => ?_⟩
      · rw [Nat.pow_succ, ← hy2 hy, hz]
      · rw [Nat.pow_succ, ← hy2 hy, ← hz]; exact h
    · have hyi : ¬ (y : Int) ≤ 1099511627776 := by omega
      simp [g11, hyi, hci, hli, g5, g6, g8, g9]
      refine ⟨y, by simp [g11], hy1, fun h => absurd h hy, fun h => ?_⟩
      rw [Nat.pow_succ]
      exact Nat.lt_of_lt_of_le (hy3 h) (Nat.le_mul_of_pos_right _ hk64.1)
  rintro ρ v10 ⟨rfl, g5, g6, g8, g9, y, g11, hy1, hy2, hy3⟩
  obtain ⟨o', ho', hpre, haps, hel⟩ := hA.sk (i := 0) (o := lgO ⟨pv, o3⟩ ⟨ev, o5⟩ n k) (by rw [hT]; rfl)
  have hnc : NoC o' := hA.nc (i := 0) (o := lgO ⟨pv, o3⟩ ⟨ev, o5⟩ n k) (by rw [hT]; rfl) ho' lgO_nc
  have hvar' : T'.vars = List.replicate n k := by rw [hA.vars, hT1]
  have hb' : nBits T'.vars = m := by rw [hA.vars, hbits]
  have hl' : T'.vars.length = n := by rw [hA.vars, hvl]
  have hs' : T'.vars.sum = n * k := by rw [hA.vars, hsum]
  obtain ⟨eb, _⟩ := bas_alk hA.vars
  have hC : LwC T' (BasS T') (nbL T') := ⟨fun G h => h, cov_basL (by rw [hA.vars]; exact hvar)⟩
  have hnb' : nbL T' = 2 * m * 2 + (n * k * 172 + n * (n * k * 2)) + m * (3 * m) := by unfold nbL; rw [hb', hl', hs']
  have hks0 : (putM [((0 : Nat), true)] q.all true).length ≤ 2 := putM_len_le
  have L10 : Lw s mm 1048576 T' q (BasS T') B w [] 0 2 [(q.all, fun _ => true), (0, fun _ => false)] v10 := by
    refine ⟨ns, _, [], by rw [eb, hA.vars]; exact hr0, hG, fun z hz => ?_, hks0, by simp, h10⟩
    simp at hz
    rcases hz with rfl | rfl
    · exact ⟨getM_put _ _ _, hG.all⟩
    · refine ⟨?_, ⟨by unfold Ref; omega, fun a => by rw [eval_zero]; simp⟩⟩
      by_cases h0 : q.all = 0
      · rw [h0]; exact getM_put _ _ _
      · rw [getM_put_ne h0]; rfl
  simp [g9]
  refine cl_of (lw_all L10) ?_
  rintro _ w11 ⟨rfl, L11⟩
  simp [g9]
  refine cl_of (lw_count1 q.all hC hLB L11 (.head _) (by rw [hnb', hs']; omega)) ?_
  rintro _ w12 ⟨rfl, L12⟩
  have ect : ctN T'.vars (fun _ => true) = k ^ n := by rw [ct_all, hvar', prL_rep]
  rw [ect]
  have hmany : many = M + 1 := by rw [hM]; rfl
  have hfam : famN (nBits T'.vars) = fF := by rw [hb', hfF]; rfl
  have hrel : relN T' o' = R := by unfold relN; rw [hl', hb', hel, hpre, hR]; rfl
  obtain ⟨ini, hini⟩ : ∃ ini, ini = List.replicate n 0 := ⟨_, rfl⟩
  obtain ⟨fin, hfin⟩ : ∃ fin, fin = ini.set (n - 1) (k - 1) := ⟨_, rfl⟩
  have hst0 : StN T'.vars ini := by
    rw [hvar', hini]
    refine ⟨by simp, fun v hv => ?_⟩
    simp only [List.length_replicate] at hv
    rw [rep_getD hv, rep_getD hv]
    omega
  have hstf : StN T'.vars fin := by
    refine ⟨by rw [hfin, List.length_set, hst0.len], fun v hv => ?_⟩
    rw [hl'] at hv
    rw [hvar', rep_getD hv, hfin]
    by_cases e : n - 1 = v
    · rw [e, gD_same (by rw [hini]; simp; exact hv)]; omega
    · rw [gD_ne e, hini, rep_getD hv]; omega
  have hap : ∀ z, apS o' z = z.set (n - 1) (k - 1) := fun z => by rw [haps]; simp [apS, apK, lgO, hdB]
  have hpr : o'.pre = [((n - 1, 0) : Go.Tk.Fc)] := hpre
  have hrr : ∀ f ∈ o'.pre, f.1 < T'.vars.length := fun f hf => by
    rw [hpr] at hf
    simp at hf
    subst hf
    rw [hl']
    show n - 1 < n
    omega
  have hini0 : ini.getD (n - 1) 0 = 0 := by rw [hini, rep_getD (by omega)]
  have eimg : imgP T' o' (fun z => decide (z = ini)) = fun z => decide (z = fin) := by
    rw [img_one hst0, hap, ← hfin, hpr]
    funext z
    have : hdB ini [((n - 1, 0) : Go.Tk.Fc)] = true := by
      show (decide (ini.getD (n - 1) 0 = 0) && true) = true
      rw [hini0]; rfl
    rw [this, Bool.true_and]
  have hpp : ∀ z, StN T'.vars z → preP o' (fun z => decide (z = fin)) z = decide (z = ini) := fun z hz => by
    unfold preP
    rw [hap, hpr, Bool.eq_iff_iff, Bool.and_eq_true, decide_eq_true_iff, decide_eq_true_iff, hfin]
    constructor
    · rintro ⟨h1, h2⟩
      have h1 : z.getD (n - 1) 0 = 0 := by simpa [hdB] using h1
      exact set_back (by rw [hz.len, hst0.len]) h1 hini0 h2
    · rintro rfl
      exact ⟨by simpa [hdB] using hini0, rfl⟩
  rw [← hini] at rV
  by_cases hbg : k ^ n < many
  · have hyM : y ≤ M := by
      rcases Nat.lt_or_ge M y with h | h
      · have := hy3 h; omega
      · exact h
    have hyi : ¬ (1099511627776 : Int) < (y : Int) := by omega
    rw [← hy2 hyM] at hbg ⊢
    rw [SpG.six hbg]
    simp [g11, hyi]
    have oq := Lw.frame L12 rT
    simp [g8, g9, cell_blk oq]
    refine cl_of (lw_single nv ini hC hLB L12 rV hst0 (by rw [hnb', hs', hl', hb']; omega) (by omega)) ?_
    rintro _ wa ⟨x1, rfl, La⟩
    simp [g9]
    refine cl_of (lw_image x1 0 o' (fun z => decide (z = ini)) hC hLB La (.head _) ho' hnc hrr (pf_set1 hst0) (by rw [hnb', hs', hl', hfam, hrel, hb']; omega) (by omega)) ?_
    rintro _ wb ⟨x2, rfl, Lb⟩
    rw [eimg] at Lb
    simp [g9]
    refine cl_of (lw_pick x2 (fun z => decide (z = fin)) (st0 := fin) hC hLB Lb (.head _) hstf (by simp)) ?_
    rintro _ wc ⟨u, st, rfl, hsu, hpu, Lc⟩
    have hpu : st = fin := by simpa using hpu
    subst hpu
    simp [g9]
    have hLU : Lcl (Star (OwnA u 3 1 nE st) B) := Lcl.own.star hLB
    refine cl_of (lw_preimage x2 0 o' (fun z => decide (z = st)) hC hLU Lc (.head _) ho' hnc hrr (pf_set1 hstf) (by rw [setF_congr hpp]; exact pf_set1 hst0) (by rw [hnb', hs', hl', hfam, hrel, hb']; omega) (by omega)) ?_
    rintro _ wd1 ⟨x3, rfl, Ld⟩
    have e31 : x3 = x1 := Ld.eq (P := preP o' fun z => decide (z = st)) (Q := fun z => decide (z = ini)) (.head _) (.tail _ (.tail _ (.head _))) hpp
    rw [e31]
    obtain ⟨ns2, ks2, ss2, _, _, _, _, _, hA2⟩ := Ld
    obtain ⟨S, hSd⟩ : ∃ S, S = SpcA s mm 1048576 T' q ns2 ks2 ss2 (Star (OwnA u 3 1 nE st) B) := ⟨_, rfl⟩
    have hLS : Lcl S := by rw [hSd]; exact SpcA.lcl hLU
    have rSu : ∀ {w'}, At w [] S w' → Vw w' u nE st ∧ Vw w' nv nE ini ∧ w'.heap[tb]? = some (.cells #[vv, nv, .slice none 0 0, ov] 26 (0, 0)) := fun h => by
      rw [hSd] at h
      exact ⟨SpcA.frame h Rds.own, SpcA.frame h (Rds.star rV), SpcA.frame h (Rds.star rT)⟩
    rw [← hSd] at hA2
    have q1 := hA2.lit (xs := ([] : List Nat)) (enc := nE) (E := 3) (sz := 1) (cs := #[]) (m := 0) hLS (by simp) nE_len (by simp [maxLen]) rfl
    have oq1 := (rSu (q1.by Imp.dr)).2.2
    simp [g8, cell_blk oq1, rowOf]
    refine At.appendV hLS q1 (rSu (q1.by Imp.dr)).2.1 nE_len nE_one sl_22 (by rw [hini]; simp; omega) (by rw [hini]; simp; unfold maxLen; omega) fun wv we h14 => ?_
    simp only [List.nil_append] at h14
    have hil : ini.length = n := by rw [hini]; simp
    have hn1i : ((n1 : Nat) : Int) < (n : Int) := by omega
    have hn1l : n1 < n := by omega
    simp (disch := omega) [-intS_sub, g5, g6, en, ek, h14.own.idx, hil, hn1i]
    refine h14.store1 (x := k1) hLS nE_len nE_one (by rw [hil]; exact hn1l) rfl fun wf h15 => ?_
    have est : ini.set n1 k1 = st := by rw [hn1, hk1]; exact hfin.symm
    rw [est] at h15
    simp only [↓wpT_nil, put_none, merge_nil, rangeQ_nrm]
    have hsl : (st.map iN).length ≤ 1000000 := by rw [List.length_map, hstf.len, hl']; omega
    simp
    refine cl_of (ints_spec u wv (st.map iN) (st.map iN) (vw_n.2 (rSu (h15.by Imp.dr)).1) (vw_n.2 h15.own.vw) hsl hsl) ?_
    rintro _ wg ⟨rfl, kg⟩
    simp
    exact (h15.kp0 (Lcl.own.star hLS) kg).kp
  · have hyM : M < y := by
      rcases Nat.lt_or_ge M y with h | h
      · exact h
      · have := hy2 h; omega
    have hyi : (1099511627776 : Int) < (y : Int) := by omega
    have ecv : cntV (k ^ n) = .tuple #[.int .i64 0, errV 5] := by unfold cntV; rw [if_neg hbg]; rfl
    rw [ecv]
    simp [g11, hyi]
    refine cl_of (is_err 5 5 w12) ?_
    rintro _ w13 ⟨rfl, k13⟩
    have L13 := L12.kp0 hLB k13
    simp
    have oq := Lw.frame L13 rT
    simp [g8, g9, cell_blk oq]
    refine cl_of (lw_single nv ini hC hLB L13 rV hst0 (by rw [hnb', hs', hl', hb']; omega) (by omega)) ?_
    rintro _ wa ⟨x1, rfl, La⟩
    simp [g9]
    refine cl_of (lw_image x1 0 o' (fun z => decide (z = ini)) hC hLB La (.head _) ho' hnc hrr (pf_set1 hst0) (by rw [hnb', hs', hl', hfam, hrel, hb']; omega) (by omega)) ?_
    rintro _ wb ⟨x2, rfl, Lb⟩
    rw [eimg] at Lb
    simp [g9]
    refine cl_of (lw_pick x2 (fun z => decide (z = fin)) (st0 := fin) hC hLB Lb (.head _) hstf (by simp)) ?_
    rintro _ wc ⟨u, st, rfl, hsu, hpu, Lc⟩
    have hpu : st = fin := by simpa using hpu
    subst hpu
    simp [g9]
    have hLU : Lcl (Star (OwnA u 3 1 nE st) B) := Lcl.own.star hLB
    refine cl_of (lw_preimage x2 0 o' (fun z => decide (z = st)) hC hLU Lc (.head _) ho' hnc hrr (pf_set1 hstf) (by rw [setF_congr hpp]; exact pf_set1 hst0) (by rw [hnb', hs', hl', hfam, hrel, hb']; omega) (by omega)) ?_
    rintro _ wd1 ⟨x3, rfl, Ld⟩
    have e31 : x3 = x1 := Ld.eq (P := preP o' fun z => decide (z = st)) (Q := fun z => decide (z = ini)) (.head _) (.tail _ (.tail _ (.head _))) hpp
    rw [e31]
    obtain ⟨ns2, ks2, ss2, _, _, _, _, _, hA2⟩ := Ld
    obtain ⟨S, hSd⟩ : ∃ S, S = SpcA s mm 1048576 T' q ns2 ks2 ss2 (Star (OwnA u 3 1 nE st) B) := ⟨_, rfl⟩
    have hLS : Lcl S := by rw [hSd]; exact SpcA.lcl hLU
    have rSu : ∀ {w'}, At w [] S w' → Vw w' u nE st ∧ Vw w' nv nE ini ∧ w'.heap[tb]? = some (.cells #[vv, nv, .slice none 0 0, ov] 26 (0, 0)) := fun h => by
      rw [hSd] at h
      exact ⟨SpcA.frame h Rds.own, SpcA.frame h (Rds.star rV), SpcA.frame h (Rds.star rT)⟩
    rw [← hSd] at hA2
    have q1 := hA2.lit (xs := ([] : List Nat)) (enc := nE) (E := 3) (sz := 1) (cs := #[]) (m := 0) hLS (by simp) nE_len (by simp [maxLen]) rfl
    have oq1 := (rSu (q1.by Imp.dr)).2.2
    simp [g8, cell_blk oq1, rowOf]
    refine At.appendV hLS q1 (rSu (q1.by Imp.dr)).2.1 nE_len nE_one sl_22 (by rw [hini]; simp; omega) (by rw [hini]; simp; unfold maxLen; omega) fun wv we h14 => ?_
    simp only [List.nil_append] at h14
    have hil : ini.length = n := by rw [hini]; simp
    have hn1i : ((n1 : Nat) : Int) < (n : Int) := by omega
    have hn1l : n1 < n := by omega
    simp (disch := omega) [-intS_sub, g5, g6, en, ek, h14.own.idx, hil, hn1i]
    refine h14.store1 (x := k1) hLS nE_len nE_one (by rw [hil]; exact hn1l) rfl fun wf h15 => ?_
    have est : ini.set n1 k1 = st := by rw [hn1, hk1]; exact hfin.symm
    rw [est] at h15
    simp only [↓wpT_nil, put_none, merge_nil, rangeQ_nrm]
    have hsl : (st.map iN).length ≤ 1000000 := by rw [List.length_map, hstf.len, hl']; omega
    simp
    refine cl_of (ints_spec u wv (st.map iN) (st.map iN) (vw_n.2 (rSu (h15.by Imp.dr)).1) (vw_n.2 h15.own.vw) hsl hsl) ?_
    rintro _ wg ⟨rfl, kg⟩
    simp
    exact (h15.kp0 (Lcl.own.star hLS) kg).kp
end Go.Proofs.Ytcoeknnghfajnaa
end
section
set_option maxRecDepth 100000
set_option linter.unusedSimpArgs false
set_option linter.unusedVariables false
namespace Go.Proofs.Ytcoeknnghfajnaa
open Go Go.W Go.Bd Go.ChangeShapes Go.WideShapes Go.ChangeAt Go.RowKit
theorem sown : ownKnob Try.prog.godebug = none := by kernel_rfl
section
variable {H : Type} {enc : TypeId × Value → H}
theorem sopen_u8 {W : World} {b : Nat} {v : Value} {d : DataW H} {ps : List MemPlace} (hv : Value.okWide Try.prog W .any b 5 v) (h : DataW.Trod enc Try.prog W 0 (fun _ => true) true 5 v d ps) : ∃ n : Nat, v = .int .u8 (n : Nat) ∧ n ≤ 255 := by
  obtain ⟨n, h⟩ := h
  obtain ⟨a, ha, _, wa⟩ := DataW.trod_int Try.underlying5 h
  have hx : ∃ x, v = .int .u8 x := by
    simp only [Value.okWide, Try.underlying5, Cell.okWide] at hv
    cases v <;> simp_all [Cell.ok]
  obtain ⟨x, rfl⟩ := hx
  have ha : [Value.int .u8 x] = [Value.int .u8 a] := ha
  simp at ha
  subst ha
  have q1 : IntKind.u8.min = 0 := rfl
  have q2 : IntKind.u8.max = 255 := rfl
  simp only [Lit.wf, Bool.and_eq_true, decide_eq_true_eq] at wa
  exact ⟨x.toNat, by rw [show ((x.toNat : Nat) : Int) = x by omega], by omega⟩
end
end Go.Proofs.Ytcoeknnghfajnaa
end
