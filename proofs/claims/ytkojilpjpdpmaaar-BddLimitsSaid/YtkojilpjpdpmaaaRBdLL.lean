/-
  A part of the proofs of this seat's statements (BdLL); no conditions beyond those each theorem names.
-/
import Derived.Test.YtkojilpjpdpmaaaRBdLP
set_option maxRecDepth 100000
set_option linter.unusedSimpArgs false
set_option linter.unusedVariables false
namespace Go.Proofs.YtkojilpjpdpmaaaR
open Go Go.W Go.Bd Go.Maps
def LiI (m n lim k : Nat) (w : World) (lv nv : Value) (w' : World) : Prop :=
  ∃ ns l len, MaS n lim len ns l ∧ len ≤ 2 + k ∧ nv = .int .i64 (ns.length : Nat) ∧ At w [] (Star (MgrA m n lim ns) (DoL lv n l Emp)) w'
set_option maxHeartbeats 4000000 in
theorem law_limits {w : World} (x s : Nat) (av : Value) (acts : List Act) (hx : x ≤ 255) (hs : s ≤ 255) (hv : Vw w av actE acts) (hok : ∀ x ∈ acts, ActOk x) :
    Calls Try.prog 7 [.int .u8 (x : Nat), .int .u8 (s : Nat), av].toArray w fun e w' => ∃ x, e = .returned x ∧ x = .bool true ∧ Kp [] w w' := by
  refine enter Try.func7 mixed low7 (Nat.le_of_ble_eq_true rfl) ?_
  simp only [L7]
  obtain ⟨n, hnn⟩ : ∃ n, n = x % 6 := ⟨_, rfl⟩
  have ew : IntKind.i64.wrap (x : Int) = x := wrap_i64 (by omega) (by omega)
  have en : (x : Int).tmod 6 = (n : Int) := by rw [hnn, Int.tmod_eq_emod_of_nonneg (by omega)]; simp
  obtain ⟨lim, hlm⟩ : ∃ lim, lim = s % 40 + 1 := ⟨_, rfl⟩
  have ews : IntKind.i64.wrap (s : Int) = s := wrap_i64 (by omega) (by omega)
  have ens : IntKind.i64.wrap ((s : Int).tmod 40 + 1) = (lim : Int) := by
    rw [Int.tmod_eq_emod_of_nonneg (by omega), wrap_i64 (by omega) (by omega), hlm]; simp
  by_cases h30 : 30 < acts.length
  · have h30' : (30 : Int) < (acts.length : Nat) := by omega
    simp [hv.len, h30', h30]
    refine cl_of (awake_spec _) ?_
    rintro _ w2 ⟨rfl, k2⟩
    simp
    exact k2
  have h30' : ¬ (30 : Int) < (acts.length : Nat) := by omega
  simp [hv.len, h30', h30]
  refine cl_of (awake_spec _) ?_
  rintro _ w1 ⟨rfl, k1⟩
  simp [ew, en, h30', h30, ews, ens]
  have h1 : At w [] Emp w1 := (At.start rfl).kp0 .emp k1
  refine cl_of (new_spec n lim .emp h1 (by omega) (by omega) (by omega)) ?_
  rintro _ w2 ⟨m, rfl, h2⟩
  simp
  refine cl_of (rConst_spec n false w2 (by omega)) ?_
  rintro _ w3 ⟨u0, rfl, t0⟩
  simp [tbV]
  refine cl_of (rConst_spec n true w3 (by omega)) ?_
  rintro _ w4 ⟨u1, rfl, t1⟩
  obtain ⟨ns0, l0, hS0, hc0, hA0⟩ := ma_start (lim := lim) .emp h2 t0 t1
  have hn0 : ns0.length = 0 := by omega
  have hv4 : Vw (w4.alloc (.cells #[.int .i64 0, .int .i64 (n : Nat), u0, .int .i64 1, .int .i64 (n : Nat), u1] 53)) av actE acts := hv.kp0 hA0.kp
  simp [tbV, rowOf, t0.own.o1, t1.own.o1, hv4.len]
  refine range_loop (n := acts.length) (by omega) (fun k ρ w' => ρ 8 = .pointer (some ⟨m, 0, none⟩) ∧ ρ 7 = .int .i64 (n : Nat) ∧ ρ 1 = .int .u8 (s : Nat) ∧ ρ 48 = av ∧ LiI m n lim k w (ρ 10) (ρ 11) w') (by simp) (by simp)
    ⟨by simp, by simp, by simp, by simp, ns0, l0, 2, hS0, by omega, by simp [hn0], by simpa using hA0⟩ (by decide) (fun _ _ _ _ h => by simpa using h) (fun _ _ _ _ h => by simpa using h) ?_ ?_
  · rintro k ρ w5 hk hc hlim ⟨g8, g7, g1, g48, ns, l, len, hS, hle, g11, h5⟩
    have hLD : Lcl (Star (MgrA m n lim ns) (DoL (ρ 10) n l Emp)) := Lcl.mgr.star (DoL.lcl .emp)
    have hav : Vw w5 av actE acts := hv.kp0 h5.kp
    obtain ⟨x, hx⟩ : ∃ x, acts[k]? = some x := ⟨_, List.getElem?_eq_getElem hk⟩
    have ox := hok x (List.mem_of_getElem? hx)
    have ec := hav.cells actE_len hx
    simp only [actE] at ec
    simp (disch := omega) [g48, hc, hlim, hav.idx, ec]
    obtain ⟨ab, hab⟩ : ∃ ab, ab = w5.heap.size := ⟨_, rfl⟩
    rw [← hab]
    refine st_act (x := x) hLD h5 hab fun w6 h6 => ?_
    have ca := rd_act h6.obj
    simp only [actE] at ca
    have h7 := h6.by Imp.d3
    simp [g8, g7, hc, hlim, ca]
    refine cl_of (do_spec m n lim ns l (ρ 10) x.k x.a x.b x.c x.v (Lcl.obj.star .emp) (by omega) ox.k ox.a ox.b ox.c ox.v (by rintro rfl; have := hS.2.2.1; have := hS.2.2.2.1; simp at *; omega) (by rw [hS.2.2.1]; omega) h7 hS.1 ⟨by omega, by omega, hS.2.1⟩ hS.2.2.2.2) ?_
    rintro _ w8 ⟨ns', hxt, hcap, hlen, ⟨p, hMp, rfl, h8⟩ | ⟨y, u, rfl, hfull, h8⟩⟩
    · have hle2 : ns.length ≤ ns'.length := by obtain ⟨⟨ms, rfl⟩, _⟩ := hxt; simp
      have hd1 : ¬ ns'.length < ns.length := by omega
      have hd2 : ¬ lim < ns'.length := by omega
      have hd3 : ¬ (ns'.length : Int) < ns.length := by omega
      have hd4 : ¬ (lim : Int) < ns'.length := by omega
      obtain ⟨pb, hpb⟩ : ∃ pb, pb = w8.heap.size := ⟨_, rfl⟩
      have hL9 : Lcl (Star (MgrA m n lim ns') (Star (OwnA (ρ 10) 53 3 (prE n) l) (Star (VwsA bv (psOf n (l ++ [p]))) (Star (ObjA ab (actO x.k x.a x.b x.c x.v)) Emp)))) := Lcl.mgr.star (Lcl.own.star (Lcl.vws.star (Lcl.obj.star .emp)))
      simp [prV, p.u.2]
      rw [← hpb]
      refine st_pair (x := p.ref) (u := p.u) hL9 h8 hpb fun w10 h10 => ?_
      have r10 := rd_pr h10.obj
      simp [g8, g7, hc, hlim, r10, rowOf, p.u.2]
      have h11 := h10.drop.kp0 hL9 ((Kp.refl [] w10).alloc (.cells #[.int .i64 (p.ref : Nat), .int .i64 (n : Nat), p.u.1] 53))
      refine ma_append (p := p) (Lcl.obj.star .emp) h11 (by have := hS.2.2.1; omega) (fun j u hj => ?_) fun v' w12 h12 => ?_
      · rw [add_none, cell_blk alloc_new]
        simpa [prE] using hj
      simp [g8, g7, g48, hc, hlim]
      have h13 : At w [] (Star (MgrA m n lim ns') (DoL v' n (l ++ [p]) Emp)) w12 := h12.by (Imp.un3 Imp.dr)
      refine cl_of (nodes_spec (MgrA.rd h13)) ?_
      rintro _ w13 ⟨rfl, k13⟩
      have h14 := h13.kp0 (Lcl.mgr.star (DoL.lcl .emp)) k13
      simp [natV, g1, g8, g11, hc, hlim, hd1, hd2, hd3, hd4, ews, ens]
      refine cl_of (nodes_spec (MgrA.rd h14)) ?_
      rintro _ w15 ⟨rfl, k15⟩
      have h15 := h14.kp0 (Lcl.mgr.star (DoL.lcl .emp)) k15
      simp [natV, g1, g8, g7, g48, hc, hlim]
      exact ⟨ns', _, len + 1, hS.snoc hxt hcap hMp, by omega, rfl, h15⟩
    · have hle2 : ns.length ≤ ns'.length := by obtain ⟨⟨ms, rfl⟩, _⟩ := hxt; simp
      have hd1 : ¬ ns'.length < ns.length := by omega
      have hd2 : ¬ lim < ns'.length := by omega
      have hd3 : ¬ (ns'.length : Int) < ns.length := by omega
      have hd4 : ¬ (lim : Int) < ns'.length := by omega
      obtain ⟨pb, hpb⟩ : ∃ pb, pb = w8.heap.size := ⟨_, rfl⟩
      have hL9 : Lcl (Star (MgrA m n lim ns') (DoL (ρ 10) n l (Star (ObjA ab (actO x.k x.a x.b x.c x.v)) Emp))) := Lcl.mgr.star (DoL.lcl (Lcl.obj.star .emp))
      simp [prV, u.2]
      rw [← hpb]
      refine st_pair (x := y) (u := u) hL9 h8 hpb fun w10 h10 => ?_
      simp [g8, g7, hc, hlim]
      have h13 : At w [] (Star (MgrA m n lim ns') (DoL (ρ 10) n l Emp)) w10 := h10.drop.by (Imp.un3 Imp.dr)
      refine cl_of (nodes_spec (MgrA.rd h13)) ?_
      rintro _ w13 ⟨rfl, k13⟩
      have h14 := h13.kp0 (Lcl.mgr.star (DoL.lcl .emp)) k13
      simp [natV, g1, g8, g11, hc, hlim, hd1, hd2, hd3, hd4, ews, ens]
      refine cl_of (nodes_spec (MgrA.rd h14)) ?_
      rintro _ w15 ⟨rfl, k15⟩
      have h15 := h14.kp0 (Lcl.mgr.star (DoL.lcl .emp)) k15
      simp [natV, g1, g8, g7, g48, hc, hlim]
      exact ⟨ns', _, len, hS.ext hxt hcap, by omega, rfl, h15⟩
  rintro ρ w5 ⟨g8, g7, g1, g48, ns, l, len, hS, hle, g11, h5⟩
  obtain ⟨lv, hlv⟩ : ∃ lv, lv = ρ 10 := ⟨_, rfl⟩
  rw [← hlv] at h5
  have hM : MaI m n lim len ns.length Emp w [] lv w5 := ⟨ns, l, hS, Nat.le_refl _, h5⟩
  obtain ⟨ns, l, hll, hl0, hcnt, R, k5⟩ := hM.rd (by omega) (by omega)
  simp [← hlv, R.vw.len]
  refine range_loop (n := l.length) (by omega) (fun k ρ w' => ρ 8 = .pointer (some ⟨m, 0, none⟩) ∧ ρ 90 = lv ∧ Kp [] w5 w') (by simp) (by simp)
    ⟨by simp [g8], by simp, Kp.refl _ _⟩ (by decide) (fun _ _ _ _ h => by simpa using h) (fun _ _ _ _ h => by simpa using h) ?_ ?_
  · rintro k ρ w6 hk hc hlim ⟨g8, g90, k6⟩
    have R6 := R.kp k6
    obtain ⟨p, hp⟩ : ∃ p, l[k]? = some p := ⟨_, List.getElem?_eq_getElem hk⟩
    have hpl := List.mem_of_getElem? hp
    have ec := R6.vw.cells (prE_len n) hp
    simp only [prE] at ec
    simp (disch := omega) [g90, hc, hlim, R6.vw.idx, ec]
    obtain ⟨pb, hpb⟩ : ∃ pb, pb = w6.heap.size := ⟨_, rfl⟩
    rw [← hpb]
    refine st_pair (w := w6) (F := []) (X := Emp) (x := p.ref) (u := p.u) .emp (At.start rfl) hpb fun w7 h7 => ?_
    have r7 := rd_pr h7.obj
    have R7 := R6.kp h7.kp
    simp [g8, hc, hlim, r7]
    refine cl_of (means_spec (F := p.f) w7 R7.mgr R7.bnd R7.wf (by omega) (R7.mean p hpl) (R7.tbl p hpl)) ?_
    rintro _ w8 ⟨rfl, k8⟩
    have h8 := h7.kp0 (.star .obj .emp) k8
    simp [g8, g90, hc, hlim]
    exact k6.trans0 h8.kp
  rintro ρ w6 ⟨g8, g90, k6⟩
  simp
  exact k5.trans0 k6
end Go.Proofs.YtkojilpjpdpmaaaR
