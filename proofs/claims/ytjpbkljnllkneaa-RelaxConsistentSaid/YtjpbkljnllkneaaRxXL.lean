/-
  A part of the proofs of this seat's statements (RxXL); no conditions beyond those each theorem names.
-/
import Derived.Test.YtjpbkljnllkneaaRxXq
import Derived.Test.YtjpbkljnllkneaaRxPa
set_option maxRecDepth 100000
set_option linter.unusedSimpArgs false
set_option linter.unusedVariables false
namespace Go.Proofs.Ytjpbkljnllkneaa
open Go Go.W Go.Tk Go.Rx Go.Maps
/-- The operators of the example. -/
def IsC (i : Nat) (o : No) : Prop := o.name = ByteArray.empty ∧ o.cost = 2 ∧ o.pre = [(0, i)] ∧ ∃ e : Nf, o.effs = [e] ∧ e.cnd = [] ∧ e.v = 0 ∧ e.x = i + 1 ∧ e.wv.1 = .slice none 0 0
def ChF (vv nv gv : Value) (os : List No) : Asr := Star (VwsA fcE (os.map fun o => (o.pv, o.pre))) (Star (VwsA nfE (os.map fun o => (o.ev, o.effs))) (Star (VwA vv nE [4]) (Star (VwA nv nE [0]) (Star (VwA gv fcE [(0, 3)]) Emp))))
def ChI (rb tb : Nat) (vv nv gv : Value) (w : World) (n : Nat) (ρ : Env) (w' : World) : Prop :=
  ∃ k os ov, n = 3 - k ∧ k ≤ 3 ∧ os.length = k ∧ (∀ i o, os[i]? = some o → IsC i o) ∧ ρ 0 = .pointer (some ⟨rb, 0, none⟩) ∧ ρ 1 = .pointer (some ⟨tb, 0, none⟩) ∧ ρ 8 = .int .i64 (k : Nat) ∧
    At w [] (Star (ObjA tb (.cells #[vv, nv, gv, ov] 26 (0, 0))) (Star (OwnA ov 49 4 noE os) (Star (ObjA rb (.cells #[.slice none 0 0, .slice none 0 0, .slice none 0 0, .slice none 0 0] 26 (0, 0))) (ChF vv nv gv os)))) w'
theorem ChF.lcl {vv nv gv : Value} {os : List No} : Lcl (ChF vv nv gv os) := Lcl.vws.star (Lcl.vws.star (Lcl.vw.star (Lcl.vw.star (Lcl.vw.star .emp))))
set_option maxHeartbeats 1000000 in
theorem chain_spec {w : World} : Calls Try.prog 37 [].toArray w fun e w' => ∃ T : Nt, e = .returned (ntV T) ∧ NtR w' T ∧ Kp [] w w' ∧ T.vars = [4] ∧ T.init = [0] ∧ T.goal = [(0, 3)] ∧ T.ops.length = 3 ∧ ∀ i o, T.ops[i]? = some o → IsC i o := by
  refine enter Try.func37 mixed low37 (Nat.le_of_ble_eq_true rfl) ?_
  simp only [L37]
  have e0 : ∀ (w : World) (o : Obj), (w.alloc o).heap.size = w.heap.size + 1 := fun w o => by simp
  obtain ⟨rb, hrb⟩ : ∃ rb, rb = w.heap.size := ⟨_, rfl⟩
  have a1 : At w [] (Star (ObjA rb (.cells #[.slice none 0 0, .slice none 0 0, .slice none 0 0, .slice none 0 0] 26 (0, 0))) Emp) (w.alloc (.cells #[.slice none 0 0, .slice none 0 0, .slice none 0 0, .slice none 0 0] 26 (0, 0))) := by rw [hrb]; exact (At.start rfl).alloc _ .emp
  have a2 := a1.lit (xs := [4]) (enc := nE) (E := 3) (sz := 1) (cs := #[.int .i64 4]) (m := 1) (Lcl.obj.star .emp) (by simp [nE]) nE_len (by simp [maxLen]) rfl
  have a3 := a2.lit (xs := [0]) (enc := nE) (E := 3) (sz := 1) (cs := #[.int .i64 0]) (m := 1) (Lcl.own.star (Lcl.obj.star .emp)) (by simp [nE]) nE_len (by simp [maxLen]) rfl
  have a4 := a3.lit (xs := [((0, 3) : Fc)]) (enc := fcE) (E := 57) (sz := 2) (cs := #[.int .i64 0, .int .i64 3]) (m := 1) (Lcl.own.star (Lcl.own.star (Lcl.obj.star .emp))) (by simp [fcE]) fcE_len (by simp [maxLen]) rfl
  simp only [e0, ← hrb] at a2 a3 a4
  obtain ⟨vv, hvv⟩ : ∃ vv, vv = Value.slice (some ⟨rb + 1, 0, none⟩) 1 1 := ⟨_, rfl⟩
  obtain ⟨nv, hnv⟩ : ∃ nv, nv = Value.slice (some ⟨rb + 1 + 1, 0, none⟩) 1 1 := ⟨_, rfl⟩
  obtain ⟨gv, hgv⟩ : ∃ gv, gv = Value.slice (some ⟨rb + 1 + 1 + 1, 0, none⟩) 1 1 := ⟨_, rfl⟩
  have hL4 : Lcl (Star (OwnA gv 57 2 fcE [((0, 3) : Fc)]) (Star (OwnA nv 3 1 nE [0]) (Star (OwnA vv 3 1 nE [4]) (Star (ObjA rb (.cells #[.slice none 0 0, .slice none 0 0, .slice none 0 0, .slice none 0 0] 26 (0, 0))) Emp)))) := Lcl.own.star (Lcl.own.star (Lcl.own.star (Lcl.obj.star .emp)))
  rw [← hgv, ← hnv, ← hvv] at a4
  have a5 := a4.alloc (.cells #[.slice none 0 0, .slice none 0 0, .slice none 0 0, .slice none 0 0] 26 (0, 0)) hL4
  simp only [e0, ← hrb] at a5
  simp [rowOf, ← hrb]
  rw [← hgv, ← hnv, ← hvv]
  have o1 : oneC vv = true := by rw [hvv]; rfl
  have o2 : oneC nv = true := by rw [hnv]; rfl
  have o3 : oneC gv = true := by rw [hgv]; rfl
  refine a5.st hL4 (by simp) (by simp [o1, o2, o3]) fun w6 h6 => ?_
  obtain ⟨tb, htb⟩ : ∃ tb, tb = rb + 1 + 1 + 1 + 1 := ⟨_, rfl⟩
  rw [← htb] at h6
  simp [← htb]
  simp at h6
  -- what is read only
  have h7 : At w [] (Star (ObjA tb (.cells #[vv, nv, gv, .slice none 0 0] 26 (0, 0))) (Star (VwA gv fcE [((0, 3) : Fc)]) (Star (VwA nv nE [0]) (Star (VwA vv nE [4]) (Star (ObjA rb (.cells #[.slice none 0 0, .slice none 0 0, .slice none 0 0, .slice none 0 0] 26 (0, 0))) Emp))))) w6 :=
    h6.by (Imp.un (Imp.ow.trans (Imp.un (Imp.ow.trans (Imp.un Imp.ow)))))
  have hR : Lcl (Star (ObjA rb (.cells #[.slice none 0 0, .slice none 0 0, .slice none 0 0, .slice none 0 0] 26 (0, 0))) Emp) := Lcl.obj.star .emp
  have h8 : At w [] (Star (VwA vv nE [4]) (Star (VwA nv nE [0]) (Star (VwA gv fcE [((0, 3) : Fc)]) (Star (ObjA tb (.cells #[vv, nv, gv, .slice none 0 0] 26 (0, 0))) (Star (ObjA rb (.cells #[.slice none 0 0, .slice none 0 0, .slice none 0 0, .slice none 0 0] 26 (0, 0))) Emp))))) w6 :=
    ((h7.by Imp.fr2).by Imp.fr3).by Imp.fr4
  have hX : Lcl (Star (VwA vv nE [4]) (Star (VwA nv nE [0]) (Star (VwA gv fcE [((0, 3) : Fc)]) (Star (ObjA tb (.cells #[vv, nv, gv, .slice none 0 0] 26 (0, 0))) (Star (ObjA rb (.cells #[.slice none 0 0, .slice none 0 0, .slice none 0 0, .slice none 0 0] 26 (0, 0))) Emp))))) := Lcl.vw.star (Lcl.vw.star (Lcl.vw.star (Lcl.obj.star hR)))
  have h9 := VwsA.nil (enc := fcE) (Lcl.vws.star hX) (VwsA.nil (enc := nfE) hX h8)
  have h10 := At.nil (E := 49) (sz := 4) (enc := noE) (Lcl.vws.star (Lcl.vws.star hX)) h9
  refine loop_inv (ChI rb tb vv nv gv w) _ ⟨0, [], .slice none 0 0, rfl, by omega, rfl, by simp, by simp, by simp [htb, hrb], by simp, ?_⟩ ?_
  · unfold ChF
    exact ((h10.by Imp.fr8).by Imp.fr8).by (Imp.un Imp.sw)
  rintro n ρ w7 ⟨k, os, ov, rfl, hk3, hol, hIs, g0, g1, g8, hA⟩
  by_cases hk : k = 3
  · subst hk
    have ho := hA.obj
    have rt : cellsAt w7 ⟨tb, 0, none⟩ 0 4 = some [vv, nv, gv, ov] := by simp [cellsAt, Addr.add, cell_blk ho]
    simp [g8, g1, g0, rt]
    have hA2 := hA.by Imp.fr3
    have hov := hA.drop.own
    refine hA2.st (Lcl.obj.star (Lcl.own.star ChF.lcl)) (by simp) (by simp [o1, o2, o3, hov.o1]) fun w8 h8 => ?_
    simp
    have h9 := h8.by (Imp.un Imp.dr)
    have hf := h9.drop.drop
    unfold ChF at hf
    refine postL_c1 ag_26 (by simp [g0]) h8.obj (by simp) rfl ?_
    refine ⟨⟨⟨vv, o1⟩, ⟨nv, o2⟩, ⟨gv, o3⟩, ⟨ov, hov.o1⟩, [4], [0], [(0, 3)], os⟩, by simp [ntV], ⟨hf.drop.drop.vw, hf.drop.drop.drop.vw, hf.drop.drop.drop.drop.vw, h9.drop.own.vw, fun o ho => ⟨?_, ?_, ?_⟩⟩, h8.kp, rfl, rfl, rfl, hol, hIs⟩
    · exact hf.vws (p := (o.pv, o.pre)) (List.mem_map.2 ⟨o, ho, rfl⟩)
    · exact hf.drop.vws (p := (o.ev, o.effs)) (List.mem_map.2 ⟨o, ho, rfl⟩)
    · intro e he
      obtain ⟨i, hi, rfl⟩ := List.getElem_of_mem ho
      obtain ⟨_, _, _, e1, q1, q2, _, _, q3⟩ := hIs i _ (List.getElem?_eq_getElem hi)
      rw [q1] at he
      simp at he
      subst he
      rw [q2, q3]
      exact Vw.nil _ _
  have hlt : (k : Int) < 3 := by omega
  have ho := hA.obj
  obtain ⟨k1, hk1⟩ : ∃ k1, k1 = k + 1 := ⟨_, rfl⟩
  have ek : (k : Int) + 1 = (k1 : Int) := by omega
  have hLA : Lcl (Star (ObjA tb (.cells #[vv, nv, gv, ov] 26 (0, 0))) (Star (OwnA ov 49 4 noE os) (Star (ObjA rb (.cells #[.slice none 0 0, .slice none 0 0, .slice none 0 0, .slice none 0 0] 26 (0, 0))) (ChF vv nv gv os)))) := Lcl.obj.star (Lcl.own.star (Lcl.obj.star ChF.lcl))
  obtain ⟨e, he⟩ : ∃ e : Nf, e = ⟨⟨.slice none 0 0, rfl⟩, [], 0, k1⟩ := ⟨_, rfl⟩
  have b1 := hA.lit (xs := [((0, k) : Fc)]) (enc := fcE) (E := 57) (sz := 2) (cs := #[.int .i64 0, .int .i64 (k : Nat)]) (m := 1) hLA (by simp [fcE]) fcE_len (by simp [maxLen]) rfl
  have b2 := b1.lit (xs := [e]) (enc := nfE) (E := 79) (sz := 3) (cs := #[.slice none 0 0, .int .i64 0, .int .i64 (k1 : Nat)]) (m := 1) (Lcl.own.star hLA) (by simp [nfE, he]) nfE_len (by simp [maxLen]) rfl
  simp only [e0] at b2
  simp (disch := omega) [g8, hlt, g1, cell_blk ho, wrap_i64, ek]
  obtain ⟨pv, hpv⟩ : ∃ pv, pv = Value.slice (some ⟨w7.heap.size, 0, none⟩) 1 1 := ⟨_, rfl⟩
  obtain ⟨ev, hev⟩ : ∃ ev, ev = Value.slice (some ⟨w7.heap.size + 1, 0, none⟩) 1 1 := ⟨_, rfl⟩
  rw [← hpv, ← hev] at b2 ⊢
  have p1 : oneC pv = true := by rw [hpv]; rfl
  have p2 : oneC ev = true := by rw [hev]; rfl
  obtain ⟨o, ho2⟩ : ∃ o : No, o = ⟨ByteArray.empty, 2, ⟨pv, p1⟩, [(0, k)], ⟨ev, p2⟩, [e]⟩ := ⟨_, rfl⟩
  obtain ⟨w9, hw9⟩ : ∃ w9, w9 = (w7.alloc (.cells #[.int .i64 0, .int .i64 (k : Nat)] 57)).alloc (.cells #[.slice none 0 0, .int .i64 0, .int .i64 (k1 : Nat)] 79) := ⟨_, rfl⟩
  rw [← hw9] at b2 ⊢
  have b3 := b2.by Imp.fr4
  have hLB3 : Lcl (Star (OwnA ev 79 3 nfE [e]) (Star (OwnA pv 57 2 fcE [((0, k) : Fc)]) (Star (ObjA tb (.cells #[vv, nv, gv, ov] 26 (0, 0))) (Star (ObjA rb (.cells #[.slice none 0 0, .slice none 0 0, .slice none 0 0, .slice none 0 0] 26 (0, 0))) (ChF vv nv gv os))))) := Lcl.own.star (Lcl.own.star (Lcl.obj.star (Lcl.obj.star ChF.lcl)))
  have b4 := b3.kp0 (Lcl.own.star hLB3) ((Kp.refl [] w9).alloc (.cells #[.string ByteArray.empty, .int .i64 2, pv, ev] 49))
  have hw9s : w9.heap.size = w7.heap.size + 1 + 1 := by rw [hw9]; simp
  refine At.append (xs := [o]) hLB3 b4 noE_len noE_one sl_24 rfl (fun j u hj => ?_) (by omega) (by unfold maxLen; omega) fun ov' w10 b5 => ?_
  · rw [← hw9s, add_none, cell_blk alloc_new]
    simpa [noE, ho2] using hj
  have b6 := b5.by (Imp.fr5.trans (Imp.un Imp.fr5))
  have b7 := b5.by Imp.fr4
  have ho7 := b7.obj
  have eov := b5.own
  simp [g0, g1, g8, eov.c1]
  refine b7.st (Lcl.own.star (Lcl.own.star (Lcl.own.star (Lcl.obj.star ChF.lcl)))) (by simp) (by simp [eov.o1]) fun w11 b8 => ?_
  simp (disch := omega) [g0, g1, g8, wrap_i64, ek]
  refine ⟨_, (by omega : 3 - k1 < 3 - k), k1, os ++ [o], ov', rfl, by omega, by simp [hol, hk1], ?_, by simp [g0], by simp [g1], by simp, ?_⟩
  · intro i q hq
    by_cases hi : i < os.length
    · rw [List.getElem?_append_left hi] at hq
      exact hIs i q hq
    · have hi2 := (List.getElem?_eq_some_iff.1 hq).1
      simp at hi2
      have hik : i = k := by omega
      subst hik
      rw [List.getElem?_append_right (by omega), hol] at hq
      simp at hq
      subst hq
      rw [ho2]
      exact ⟨rfl, rfl, rfl, e, rfl, by rw [he], by rw [he], by rw [he]; exact hk1, by rw [he]⟩
  · have hfin : Imp (ChF vv nv gv os) (ChF vv nv gv os) := Imp.rfl
    have key : Imp (Star (OwnA ev 79 3 nfE [e]) (Star (OwnA pv 57 2 fcE [((0, k) : Fc)]) (ChF vv nv gv os))) (ChF vv nv gv (os ++ [o])) := by
      unfold ChF
      have e1 : ((os ++ [o]).map fun o => (o.pv, o.pre)) = (os.map fun o => (o.pv, o.pre)) ++ [(⟨pv, p1⟩, [((0, k) : Fc)])] := by rw [ho2]; simp
      have e2 : ((os ++ [o]).map fun o => (o.ev, o.effs)) = (os.map fun o => (o.ev, o.effs)) ++ [(⟨ev, p2⟩, [e])] := by rw [ho2]; simp
      rw [e1, e2]
      exact Imp.ow.trans ((Imp.un (Imp.ow.trans (VwsA.add p1))).trans (Imp.sw.trans (Imp.un (VwsA.add p2))))
    have b9 := b8.by (Imp.un (Imp.un (Imp.fr3.trans (Imp.un key))))
    simpa using b9
end Go.Proofs.Ytjpbkljnllkneaa
