/-
  Parts of the proofs of this seat's statements (BdDq, BdDr, BdDs, BdDo, BdMa); no conditions beyond those each theorem names.
-/
import Derived.Test.YtkojilpjpdpmaaaRBdTs
import Derived.Test.YtkojilpjpdpmaaaRBdWC
import Derived.Test.YtkojilpjpdpmaaaRLibR
section
set_option maxRecDepth 100000
set_option linter.unusedSimpArgs false
set_option linter.unusedVariables false
namespace Go.Proofs.YtkojilpjpdpmaaaR
open Go Go.W Go.Bd Go.Maps

section
variable {n : Nat} {ns ns' : Ns} {f g h x : Nat} {Ff Fg Fh : (Nat → Bool) → Bool}
theorem Mean.bin {op lim : Nat} {S : Nat → Nat → Prop} {r : Option Nat} (hf : Mean n ns f Ff) (hg : Mean n ns g Fg) (h : BinOk n lim op S ns f g r ns') (hr : r = some x) : Mean n ns' x (fun a => opB op (Ff a) (Fg a)) := by
  obtain ⟨h1, h2⟩ := h.ok x hr
  exact ⟨h1, fun a => by rw [h2, hf.ev, hg.ev]⟩
theorem Mean.eq {G : (Nat → Bool) → Bool} (h : Mean n ns x Ff) (e : ∀ a, Ff a = G a) : Mean n ns x G := ⟨h.ref, fun a => by rw [h.ev, e]⟩
end
/-- The list of a support is that of the table. -/
theorem sup_eq {n f : Nat} {ns : Ns} {Ff : (Nat → Bool) → Bool} {L : List Int} (h : Mean n ns f Ff) (w : Wf n ns) (hL : SupP n ns f L) : L = supT n n Ff := by
  refine asc_unique hL.1 (supT_asc n n Ff) fun x => ?_
  rw [hL.2, supT_mem]
  constructor
  · rintro ⟨y, hy, rfl⟩
    exact ⟨tv n ns y, rfl, w.tv_var hy.ge (hy.ref w h.ref), by unfold depB; exact decide_eq_true ((h.dep w _).2 ⟨y, hy, rfl⟩)⟩
  · rintro ⟨i, rfl, hi, hd⟩
    unfold depB at hd
    obtain ⟨y, hy, e⟩ := (h.dep w i).1 (of_decide_eq_true hd)
    exact ⟨y, hy, by rw [e]⟩
theorem rd_pr0 {w : World} {b n x : Nat} {u : Value} (h : w.heap[b]? = some (prO n x u)) : w.cell? ⟨b, 0, none⟩ = some (.int .i64 (x : Nat)) := by
  unfold prO at h
  simp [cell_blk h]
theorem rd_pr1 {w : World} {b n x : Nat} {u : Value} (h : w.heap[b]? = some (prO n x u)) : cellsAt w ⟨b, 1, none⟩ 0 2 = some [.int .i64 (n : Nat), u] := by
  unfold prO at h
  simp [cellsAt, Addr.add, cell_blk h]
theorem rd_pr {w : World} {b n x : Nat} {u : Value} (h : w.heap[b]? = some (prO n x u)) : cellsAt w ⟨b, 0, none⟩ 0 3 = some [.int .i64 (x : Nat), .int .i64 (n : Nat), u] := by
  unfold prO at h
  simp [cellsAt, Addr.add, cell_blk h]
def eV : Option Nat → Value
  | some _ => .nilIface
  | none => errV 10
theorem optV_eq (r : Option Nat) : optV r = .tuple #[.int .i64 ((r.getD 0 : Nat) : Int), eV r] := by cases r <;> rfl
end Go.Proofs.YtkojilpjpdpmaaaR
end
section
set_option maxRecDepth 100000
set_option linter.unusedSimpArgs false
set_option linter.unusedVariables false
namespace Go.Proofs.YtkojilpjpdpmaaaR
open Go Go.W Go.Bd Go.Maps
/-- What an operation of an act gives. -/
structure Out (n lim : Nat) (ns : Ns) (G : (Nat → Bool) → Bool) (r : Option Nat) (ns' : Ns) : Prop where
  ext : Ext n ns ns'
  cap : ns'.length ≤ lim
  len : ns'.length ≤ ns.length + 200
  mean : ∀ x, r = some x → Mean n ns' x G
  full : r = none → lim < ns.length + 200
section
variable {n lim f g h i : Nat} {ns ns' : Ns} {Ff Fg Fh G : (Nat → Bool) → Bool} {r : Option Nat}
theorem pow5 (hn : n ≤ 5) (k : Nat) : 2 ^ (n - k) ≤ 32 := by
  have h := two_mono (show n - k ≤ 5 by omega)
  exact h
theorem prs (hn : n ≤ 5) (op : Nat) : (pairs n op ns n f g).length ≤ 31 := by
  have h1 := pairs_len n op ns n f g
  have h2 := pow5 hn 0
  rw [Nat.sub_zero] at h2
  omega
theorem prs_clo (w : Wf n ns) (op : Nat) (hf : Ref ns f) (hg : Ref ns g) : Sn op (fun x y => (x, y) ∈ pairs n op ns n f g) f g ∧ Clo n op ns (fun x y => (x, y) ∈ pairs n op ns n f g) :=
  pairs_clo w n f g hf hg (by omega)
theorem Out.bin {op : Nat} (hn : n ≤ 5) (hf : Mean n ns f Ff) (hg : Mean n ns g Fg) (h : BinOk n lim op (fun x y => (x, y) ∈ pairs n op ns n f g) ns f g r ns') (e : ∀ a, opB op (Ff a) (Fg a) = G a) : Out n lim ns G r ns' := by
  have hc := h.cnt (pairs n op ns n f g) fun x y h => h
  have hl := prs (n := n) (f := f) (g := g) (ns := ns) hn op
  refine ⟨h.ext, h.lim, by omega, fun x hx => Mean.eq (Mean.bin hf hg h hx) e, fun hr => ?_⟩
  have := hc.2 hr
  omega
theorem Out.ite {M' : Mem3} (hn : n ≤ 5) (hf : Mean n ns f Ff) (hg : Mean n ns g Fg) (hh : Mean n ns h Fh) (k : IOk n lim ns [] f g h r ns' M') : Out n lim ns (iteF Ff Fg Fh) r ns' := by
  have hp := pow5 hn (mtv n ns f g h)
  have h1 := k.cnt
  refine ⟨k.ext, k.lim, by omega, fun x hx => ?_, fun hr => ?_⟩
  · obtain ⟨h2, h3⟩ := k.ok x hx
    exact ⟨h2, fun a => by rw [h3, hf.ev, hg.ev, hh.ev]; rfl⟩
  · have := k.full hr
    omega
theorem Out.res {σ : (Nat → Bool) → Nat → Bool} {M' : Mem1} (hn : n ≤ 5) (hf : Mean n ns f Ff) (k : ChOk n lim σ ns f r ns' M') (e : ∀ a, Ff (σ a) = G a) : Out n lim ns G r ns' := by
  have hp := pow5 hn (tv n ns f)
  have h1 := k.cnt
  refine ⟨k.ext, k.lim, by omega, fun x hx => ?_, fun hr => ?_⟩
  · obtain ⟨h2, h3⟩ := k.ok x hx
    exact ⟨h2, fun a => by rw [h3, hf.ev, e]⟩
  · have := k.full hr
    omega
theorem qb5 (hn : n ≤ 5) (k : Nat) : qB (n - k) ≤ 160 := by
  have hp := pow5 hn k
  unfold qB
  have : (n - k) * 2 ^ (n - k) ≤ 5 * 32 := Nat.mul_le_mul (by omega) hp
  omega
theorem Out.qua {op : Nat} {M' : Mem1} {xs : List Int} {l : List Nat} (hop : op ≤ 1) (hn : n ≤ 5) (hf : Mean n ns f Ff) (hl : ∀ x ∈ l, x < n) (hx : ∀ i : Nat, (i : Int) ∈ xs ↔ i ∈ l) (hv : ∀ x ∈ xs, 0 ≤ x ∧ x < n) (k : QOk n lim op (inB (insOf n xs)) ns f r ns' M') : Out n lim ns (quaF op Ff l) r ns' := by
  have hp := qb5 hn (tv n ns f)
  have h1 := k.cnt
  refine ⟨k.ext, k.lim, by omega, fun x hx' => ?_, fun hr => ?_⟩
  · obtain ⟨h2, h3⟩ := k.ok x hx'
    refine ⟨h2, fun a => ?_⟩
    rw [Bool.eq_iff_iff, h3, show (fun c => eval ns c f) = Ff from funext hf.ev]
    exact qS_qua hop Ff l.length l rfl (fun i => by rw [insOf_get hv, decide_eq_decide]; exact hx i) a
  · have := k.full hr
    omega
theorem Out.ae {r1 : Option Nat} {ns1 : Ns} {M' : Mem1} {xs : List Int} {l : List Nat} (hn : n ≤ 5) (hf : Mean n ns f Ff) (hg : Mean n ns g Fg) (h1 : BinOk n lim 0 (fun x y => (x, y) ∈ pairs n 0 ns n f g) ns f g r1 ns1)
    (hl : ∀ x ∈ l, x < n) (hx : ∀ i : Nat, (i : Int) ∈ xs ↔ i ∈ l) (hv : ∀ x ∈ xs, 0 ≤ x ∧ x < n)
    (h2 : r1 = none → r = none ∧ ns' = ns1) (h3 : ∀ y, r1 = some y → QOk n lim 1 (inB (insOf n xs)) ns1 y r ns' M') : Out n lim ns (quaF 1 (fun a => Ff a && Fg a) l) r ns' := by
  have hc := h1.cnt (pairs n 0 ns n f g) fun x y h => h
  have hpl := prs (n := n) (f := f) (g := g) (ns := ns) hn 0
  have o1 : Out n lim ns (fun a => Ff a && Fg a) r1 ns1 := Out.bin hn hf hg h1 fun a => by simp [opB]
  cases hr1 : r1 with
  | none =>
    obtain ⟨rfl, rfl⟩ := h2 hr1
    exact ⟨h1.ext, h1.lim, by omega, (fun x hx => by cases hx), fun _ => o1.full hr1⟩
  | some y =>
    have hy := o1.mean y hr1
    have k := h3 y hr1
    have hp := qb5 hn (tv n ns1 y)
    have hk := k.cnt
    have o2 := Out.qua (by omega) hn hy hl hx hv k
    refine ⟨h1.ext.trans o2.ext, o2.cap, by omega, o2.mean, fun hr => ?_⟩
    have := k.full hr
    omega
theorem Out.ren {L xs : List Int} {M' : Mem1} (hn : n ≤ 5) (w : Wf n ns) (hf : Mean n ns f Ff) (hL : SupP n ns f L) (k : ChOk n lim (fun a i => a (tgt xs i).toNat) ns f r ns' M') : Out n lim ns (renF xs (supT n n Ff) Ff) r ns' := by
  have e := sup_eq hf w hL
  refine Out.res hn hf k fun a => ?_
  unfold renF
  rw [← hf.ev, ← hf.ev]
  refine eval_reach w (S := fun i => (i : Int) ∈ L) (fun i hi => ?_) hf.ref fun y hy => (hL.2 _).2 ⟨y, hy, rfl⟩
  rw [← e]
  simp [hi]
theorem Out.var (hb : ns.length ≤ lim) (w : Wf n ns) (hi : i < n) : Out n lim ns (fun a => a i) (mkF lim ns i 0 1).1 (mkF lim ns i 0 1).2 := by
  have hm := mkF_ok (n := n) (lim := lim) w (v := i) (l := 0) (h := 1) hi (Ref.zero _) (Ref.one _) (by rw [tv_lt (by omega)]; exact hi) (by rw [tv_lt (by omega)]; exact hi)
  have := hm.len
  refine ⟨hm.ext, hm.lim hb, by omega, fun x hx => ?_, fun hr => ?_⟩
  · obtain ⟨h1, _, h3⟩ := hm.ok x hx
    exact ⟨h1, fun a => by rw [h3, eval_zero, eval_one]; cases a i <;> rfl⟩
  · have := (hm.full hr).1
    omega
end
end Go.Proofs.YtkojilpjpdpmaaaR
end
section
set_option maxRecDepth 100000
set_option linter.unusedSimpArgs false
set_option linter.unusedVariables false
namespace Go.Proofs.YtkojilpjpdpmaaaR
open Go Go.W Go.Bd Go.Maps
section
variable {A B C D E G I X : Asr}
theorem Imp.r7 : Imp (Star A (Star B (Star C (Star D (Star E (Star G (Star I X))))))) (Star I (Star A (Star B (Star C (Star D (Star E (Star G X))))))) :=
  Imp.trans (Imp.un4 (Imp.trans (Imp.un Imp.sw) Imp.sw)) (Imp.trans (Imp.un3 Imp.sw) (Imp.trans (Imp.un2 Imp.sw) (Imp.trans (Imp.un Imp.sw) Imp.sw)))
end
/-- A slice that is there already, or a new one. -/
theorem VwsA.mix {w w1 w' : World} {F : List Nat} {X : Asr} {ps : List (Cell1 × List Bool)} {fv u : Value} {T : List Bool} (hX : Lcl X) (h : At w F (Star (VwsA bv ps) X) w1) (hk : Kp [] w1 w') (hv : Vw w' u bv T) (hT : T ≠ [])
    (hu : u = fv ∨ ∀ z ∈ u.own, w1.heap.size ≤ z) {p : Cell1 × List Bool} (hp : p ∈ ps) (hpf : p.1.1 = fv) : At w F (Star (VwsA bv (ps ++ [(⟨u, hv.o1⟩, T)])) X) w' := by
  rcases hu with rfl | hu
  · have h2 := h.kp0 (Lcl.vws.star hX) hk
    refine h2.imp ?_
    rintro F1 ⟨Fb, Fc, ⟨h2, h2', rfl⟩, h3, d1, rfl⟩
    have sub : ∀ x, x ∈ (ps ++ [((⟨u, hv.o1⟩ : Cell1), T)] : List (Cell1 × List Bool)).flatMap (fun p => p.1.1.own) → x ∈ ps.flatMap (fun p => p.1.1.own) := fun x hx => by
      obtain ⟨q, hq, hq2⟩ := List.mem_flatMap.1 hx
      rcases List.mem_append.1 hq with h | h
      · exact List.mem_flatMap.2 ⟨q, h, hq2⟩
      · simp at h; subst h; exact List.mem_flatMap.2 ⟨_, hp, by rw [hpf]; exact hq2⟩
    refine ⟨_, ⟨_, Fc, ⟨fun q hq => ?_, fun x hx => h2' x (sub x hx), rfl⟩, h3, fun x hx hc => d1 x (sub x hx) hc, rfl⟩, fun x hx => ?_⟩
    · rcases List.mem_append.1 hq with h | h
      · exact h2 q h
      · simp at h; subst h; exact hv
    · rcases List.mem_append.1 hx with h | h
      · exact List.mem_append.2 (.inl (sub x h))
      · exact List.mem_append.2 (.inr h)
  · have h2 : At w F (Star (VwA u bv T) (Star (VwsA bv ps) X)) w' := h.more (Lcl.vws.star hX) hk ⟨u.own, ⟨hv, rfl, vw_lt hv hT⟩, hu⟩
    exact h2.by (VwsA.add hv.o1)
end Go.Proofs.YtkojilpjpdpmaaaR
end
section
set_option maxRecDepth 100000
set_option linter.unusedSimpArgs false
set_option linter.unusedVariables false
namespace Go.Proofs.YtkojilpjpdpmaaaR
open Go Go.W Go.Bd Go.Maps
/-! ### An act: its arguments -/
def actV (k a b c v : Nat) : Value := .agg #[.int .u8 (k : Nat), .int .u8 (a : Nat), .int .u8 (b : Nat), .int .u8 (c : Nat), .int .u8 (v : Nat)]
def actO (k a b c v : Nat) : Obj := .cells #[.int .u8 (k : Nat), .int .u8 (a : Nat), .int .u8 (b : Nat), .int .u8 (c : Nat), .int .u8 (v : Nat)] 63 (0, 0)
def zP : Obj := .cells #[.int .i64 0, .int .i64 0, .slice none 0 0] 53 (0, 0)
def psOf (n : Nat) (l : List Pr) : List (Cell1 × List Bool) := l.map fun p => (p.u, tab n p.f)
def DoL (lv : Value) (n : Nat) (l : List Pr) (B : Asr) : Asr := Star (OwnA lv 53 3 (prE n) l) (Star (VwsA bv (psOf n l)) B)
theorem DoL.lcl {lv : Value} {n : Nat} {l : List Pr} {B : Asr} (hB : Lcl B) : Lcl (DoL lv n l B) := .star .own (.star .vws hB)
/-- The values of the operations that select the pairs. -/
def selV (lv : Value) (ab len n : Nat) (pk : Nat → Pr) (xs : List (Nat × Nat)) (i : Nat) : Value :=
  match xs[i / 9]? with
  | none => undef
  | some (fi, x) => match i % 9 with
    | 0 => lv
    | 1 => .pointer (some ⟨ab, fi, none⟩)
    | 2 => .int .u8 (x : Nat)
    | 3 => .int .i64 (x : Nat)
    | 4 => lv
    | 5 => .int .i64 (len : Nat)
    | 6 => .int .i64 ((x % len : Nat) : Int)
    | 7 => .pointer (some ⟨lv.blk, x % len * 3, none⟩)
    | _ => .agg (prE n (pk x)).toArray
def SelF (lv : Value) (ab len n : Nat) (pk : Nat → Pr) (xs : List (Nat × Nat)) (i : Nat) (v : Value) : Prop := v = selV lv ab len n pk xs i
def SelNew : Nat → Option Obj
  | 27 => some zP
  | 28 => some zP
  | 29 => some zP
  | _ => none
def SelSt (px py pz : Obj) : Nat → Option (Nat × Obj)
  | 30 => some (27, px)
  | 31 => some (28, py)
  | 32 => some (29, pz)
  | _ => none
theorem prO_eq (n : Nat) (p : Pr) : prO n p.ref p.u.1 = .cells (prE n p).toArray 53 (0, 0) := rfl

def Do1 (m n ab rb xb yb zb : Nat) (ρ : Env) : Prop := ρ 0 = .pointer (some ⟨m, 0, none⟩) ∧ ρ 1 = .int .i64 (n : Nat) ∧ ρ 7 = .pointer (some ⟨ab, 0, none⟩) ∧ ρ 8 = .pointer (some ⟨rb, 0, none⟩) ∧ ρ 10 = .pointer (some ⟨xb, 0, none⟩) ∧ ρ 11 = .pointer (some ⟨yb, 0, none⟩) ∧ ρ 12 = .pointer (some ⟨zb, 0, none⟩)
def DoPs (n : Nat) (l : List Pr) (zu ou : Cell1) : List (Cell1 × List Bool) := psOf n l ++ [(zu, tab n fun _ => false)] ++ [(ou, tab n fun _ => true)]
def Do2 (m n lim ab rb xb yb zb K A Bb C V : Nat) (px py pz : Pr) (ns : Ns) (l : List Pr) (lv : Value) (B : Asr) (w : World) (F : List Nat) (ρ : Env) (w' : World) : Prop :=
  ∃ z0 o1 zu ou, Do1 m n ab rb xb yb zb ρ ∧ ρ 13 = .pointer (some ⟨z0, 0, none⟩) ∧ ρ 14 = .pointer (some ⟨o1, 0, none⟩) ∧
    At w F (Star (PinA [(o1, tbO n ou.1), (z0, tbO n zu.1), (ab, actO K A Bb C V), (xb, prO n px.ref px.u.1), (yb, prO n py.ref py.u.1), (zb, prO n pz.ref pz.u.1)]) (Star (ObjA rb zP) (Star (MgrA m n lim ns) (Star (OwnA lv 53 3 (prE n) l) (Star (VwsA bv (DoPs n l zu ou)) B))))) w'
theorem chI_len {n V : Nat} : (chI n V).length = (chN n V).length := by simp [chI]
theorem chI_mem {n V i : Nat} : (i : Int) ∈ chI n V ↔ i ∈ chN n V := by
  unfold chI
  rw [List.mem_map]
  constructor
  · rintro ⟨a, ha, e⟩
    rwa [show i = a by omega]
  · exact fun h => ⟨i, h, rfl⟩
theorem chI_lt {n V : Nat} {x : Int} (h : x ∈ chI n V) : 0 ≤ x ∧ x < n := by
  unfold chI at h
  obtain ⟨i, hi, rfl⟩ := List.mem_map.1 h
  have := chN_lt i hi
  omega
theorem chI_all {n V : Nat} : (chI n V).all (varB n) = true := List.all_eq_true.2 fun x hx => by
  have := chI_lt hx
  simp [varB]
  omega
theorem ren_len {n : Nat} {xs L : List Int} (h : ¬ RenBad1 n xs L) : xs.length = n := by
  rcases Decidable.em (xs.length = n) with h1 | h1
  · exact h1
  · exact absurd (.inl h1) h
theorem ren_ok {n : Nat} {xs : List Int} {G : (Nat → Bool) → Bool} (h : ¬ RenBad1 n xs (supT n n G)) : ∀ v ∈ supT n n G, v.toNat < xs.length ∧ 0 ≤ tgt xs v ∧ tgt xs v < n := fun v hv => by
  have hl := ren_len h
  obtain ⟨i, rfl, hi, _⟩ := supT_mem.1 hv
  refine ⟨by omega, ?_, ?_⟩
  · rcases Decidable.em (tgt xs i < 0) with h1 | h1
    · exact absurd (.inr ⟨i, hv, .inl h1⟩) h
    · omega
  · rcases Decidable.em ((n : Int) ≤ tgt xs i) with h1 | h1
    · exact absurd (.inr ⟨i, hv, .inr h1⟩) h
    · omega
theorem and_ite {F G : (Nat → Bool) → Bool} : quaF 1 (iteF F G fun _ => false) = quaF 1 fun a => F a && G a := by
  congr 1
  funext a
  unfold iteF
  cases F a <;> rfl
theorem dropMid {α : Type} {l : List α} {x y : α} : ∀ p ∈ l ++ [y], p ∈ l ++ [x] ++ [y] := fun p hp => by
  simp at hp ⊢
  rcases hp with h | h
  · exact .inl h
  · exact .inr (.inr h)
def DoSub (n : Nat) (l : List Pr) (zu ou : Cell1) (ps : List (Cell1 × List Bool)) : Prop := ∀ p ∈ DoPs n l zu ou, p ∈ ps
theorem DoSub.refl {n : Nat} {l : List Pr} {zu ou : Cell1} : DoSub n l zu ou (DoPs n l zu ou) := fun _ h => h
theorem DoSub.snoc {n : Nat} {l : List Pr} {zu ou : Cell1} {ps qs : List (Cell1 × List Bool)} (h : DoSub n l zu ou ps) : DoSub n l zu ou (ps ++ qs) := fun p hp => List.mem_append_left _ (h p hp)
/-- What can be read while an act is executed. -/
structure PinF (n K A Bb C V ab xb yb zb z0 o1 : Nat) (px py pz : Pr) (zu ou : Cell1) (wa : World) : Prop where
  x0 : wa.cell? ⟨xb, 0, none⟩ = some (.int .i64 (px.ref : Nat))
  x1 : cellsAt wa ⟨xb, 1, none⟩ 0 2 = some [.int .i64 (n : Nat), px.u.1]
  y0 : wa.cell? ⟨yb, 0, none⟩ = some (.int .i64 (py.ref : Nat))
  y1 : cellsAt wa ⟨yb, 1, none⟩ 0 2 = some [.int .i64 (n : Nat), py.u.1]
  w0 : wa.cell? ⟨zb, 0, none⟩ = some (.int .i64 (pz.ref : Nat))
  w1 : cellsAt wa ⟨zb, 1, none⟩ 0 2 = some [.int .i64 (n : Nat), pz.u.1]
  zz : cellsAt wa ⟨z0, 0, none⟩ 0 2 = some [.int .i64 (n : Nat), zu.1]
  oo : cellsAt wa ⟨o1, 0, none⟩ 0 2 = some [.int .i64 (n : Nat), ou.1]
  a0 : wa.cell? ⟨ab, 0, none⟩ = some (.int .u8 (K : Nat))
  a3 : wa.cell? ⟨ab, 3, none⟩ = some (.int .u8 (C : Nat))
  a4 : wa.cell? ⟨ab, 4, none⟩ = some (.int .u8 (V : Nat))
  vx : Vw wa px.u.1 bv (tab n px.f)
  vy : Vw wa py.u.1 bv (tab n py.f)
  vz : Vw wa pz.u.1 bv (tab n pz.f)
  vzu : Vw wa zu.1 bv (tab n fun _ => false)
  vou : Vw wa ou.1 bv (tab n fun _ => true)
section
variable {w : World} {F : List Nat} {B : Asr} {m n lim ab rb xb yb zb z0 o1 ob K A Bb C V : Nat} {px py pz : Pr} {zu ou : Cell1} {ns ns' : Ns} {l : List Pr} {lv : Value} {wa : World} {VV : Asr} {o : Obj}
theorem PinF.of (hp : ∀ q ∈ [(o1, tbO n ou.1), (z0, tbO n zu.1), (ab, actO K A Bb C V), (xb, prO n px.ref px.u.1), (yb, prO n py.ref py.u.1), (zb, prO n pz.ref pz.u.1)], wa.heap[q.1]? = some q.2) (hv : ∀ p ∈ DoPs n l zu ou, Vw wa p.1.1 bv p.2) (hx : px ∈ l) (hy : py ∈ l) (hz : pz ∈ l) : PinF n K A Bb C V ab xb yb zb z0 o1 px py pz zu ou wa := by
  have q0 := hp (o1, tbO n ou.1) (.head _)
  have q1 := hp (z0, tbO n zu.1) (.tail _ (.head _))
  have ha := hp (ab, actO K A Bb C V) (.tail _ (.tail _ (.head _)))
  have q3 := hp (xb, prO n px.ref px.u.1) (.tail _ (.tail _ (.tail _ (.head _))))
  have q4 := hp (yb, prO n py.ref py.u.1) (.tail _ (.tail _ (.tail _ (.tail _ (.head _)))))
  have q5 := hp (zb, prO n pz.ref pz.u.1) (.tail _ (.tail _ (.tail _ (.tail _ (.tail _ (.head _))))))
  have mem : ∀ p ∈ l, (p.u, tab n p.f) ∈ DoPs n l zu ou := fun p hp => by
    unfold DoPs psOf
    simp only [List.mem_append, List.mem_map]
    exact .inl (.inl ⟨p, hp, rfl⟩)
  have m1 : (zu, tab n fun _ => false) ∈ DoPs n l zu ou := by unfold DoPs; exact List.mem_append.2 (.inl (List.mem_append.2 (.inr (.head _))))
  have m2 : (ou, tab n fun _ => true) ∈ DoPs n l zu ou := by unfold DoPs; exact List.mem_append.2 (.inr (.head _))
  unfold actO at ha
  exact ⟨rd_pr0 q3, rd_pr1 q3, rd_pr0 q4, rd_pr1 q4, rd_pr0 q5, rd_pr1 q5, rd_tb q1, rd_tb q0, by simp [cell_blk ha], by simp [cell_blk ha], by simp [cell_blk ha],
    hv _ (mem px hx), hv _ (mem py hy), hv _ (mem pz hz), hv _ m1, hv _ m2⟩
theorem mst (h : At w F (Star (MgrA m n lim ns) (Star VV (Star (ObjA ob o) (Star (PinA [(o1, tbO n ou.1), (z0, tbO n zu.1), (ab, actO K A Bb C V), (xb, prO n px.ref px.u.1), (yb, prO n py.ref py.u.1), (zb, prO n pz.ref pz.u.1)]) (Star (ObjA rb zP) (Star (OwnA lv 53 3 (prE n) l) (Star (VwsA bv (DoPs n l zu ou)) B))))))) wa) (hx : px ∈ l) (hy : py ∈ l) (hz : pz ∈ l) : PinF n K A Bb C V ab xb yb zb z0 o1 px py pz zu ou wa :=
  PinF.of (fun q hq => h.drop.drop.drop.pin (b := q.1) (o := q.2) hq) (fun p hp => h.drop.drop.drop.drop.drop.drop.vws hp) hx hy hz
theorem tst (h : At w F (Star (ObjA ob o) (Star (MgrA m n lim ns) (Star VV (Star (PinA [(o1, tbO n ou.1), (z0, tbO n zu.1), (ab, actO K A Bb C V), (xb, prO n px.ref px.u.1), (yb, prO n py.ref py.u.1), (zb, prO n pz.ref pz.u.1)]) (Star (ObjA rb zP) (Star (OwnA lv 53 3 (prE n) l) (Star (VwsA bv (DoPs n l zu ou)) B))))))) wa) (hx : px ∈ l) (hy : py ∈ l) (hz : pz ∈ l) : PinF n K A Bb C V ab xb yb zb z0 o1 px py pz zu ou wa :=
  PinF.of (fun q hq => h.drop.drop.drop.pin (b := q.1) (o := q.2) hq) (fun p hp => h.drop.drop.drop.drop.drop.drop.vws hp) hx hy hz
theorem tstS {ps : List (Cell1 × List Bool)} (h : At w F (Star (ObjA ob o) (Star (MgrA m n lim ns) (Star VV (Star (PinA [(o1, tbO n ou.1), (z0, tbO n zu.1), (ab, actO K A Bb C V), (xb, prO n px.ref px.u.1), (yb, prO n py.ref py.u.1), (zb, prO n pz.ref pz.u.1)]) (Star (ObjA rb zP) (Star (OwnA lv 53 3 (prE n) l) (Star (VwsA bv ps) B))))))) wa) (hx : px ∈ l) (hy : py ∈ l) (hz : pz ∈ l) (hs : DoSub n l zu ou ps) : PinF n K A Bb C V ab xb yb zb z0 o1 px py pz zu ou wa :=
  PinF.of (fun q hq => h.drop.drop.drop.pin (b := q.1) (o := q.2) hq) (fun p hp => h.drop.drop.drop.drop.drop.drop.vws (hs p hp)) hx hy hz
theorem mstA {AA : Asr} (h : At w F (Star (MgrA m n lim ns) (Star VV (Star AA (Star (ObjA ob o) (Star (PinA [(o1, tbO n ou.1), (z0, tbO n zu.1), (ab, actO K A Bb C V), (xb, prO n px.ref px.u.1), (yb, prO n py.ref py.u.1), (zb, prO n pz.ref pz.u.1)]) (Star (ObjA rb zP) (Star (OwnA lv 53 3 (prE n) l) (Star (VwsA bv (DoPs n l zu ou)) B)))))))) wa) (hx : px ∈ l) (hy : py ∈ l) (hz : pz ∈ l) : PinF n K A Bb C V ab xb yb zb z0 o1 px py pz zu ou wa :=
  PinF.of (fun q hq => h.drop.drop.drop.drop.pin (b := q.1) (o := q.2) hq) (fun p hp => h.drop.drop.drop.drop.drop.drop.drop.vws hp) hx hy hz
/-- Behind an act. -/
def Do4 (m n lim rb : Nat) (ns : Ns) (l : List Pr) (lv : Value) (B : Asr) (w : World) (F : List Nat) (ρ : Env) (w' : World) : Prop :=
  ρ 8 = .pointer (some ⟨rb, 0, none⟩) ∧ ∃ ob, ρ 16 = .pointer (some ⟨ob, 0, none⟩) ∧ ∃ ns', Ext n ns ns' ∧ ns'.length ≤ lim ∧ ns'.length ≤ ns.length + 200 ∧
    ((ρ 17 = .nilIface ∧ ∃ p : Pr, Mean n ns' p.ref p.f ∧ At w F (Star (ObjA ob (prO n p.ref p.u.1)) (Star (ObjA rb zP) (Star (MgrA m n lim ns') (Star (OwnA lv 53 3 (prE n) l) (Star (VwsA bv (psOf n l ++ [(p.u, tab n p.f)])) B))))) w') ∨
     (ρ 17 = errV 10 ∧ lim < ns.length + 200 ∧ ∃ (x : Nat) (u : Cell1), At w F (Star (ObjA ob (prO n x u.1)) (Star (ObjA rb zP) (Star (MgrA m n lim ns') (DoL lv n l B)))) w'))
theorem Do4.mk {ρ : Env} {r : Option Nat} {u : Cell1} {G : (Nat → Bool) → Bool} (g8 : ρ 8 = .pointer (some ⟨rb, 0, none⟩)) (g16 : ρ 16 = .pointer (some ⟨ob, 0, none⟩)) (g17 : ρ 17 = eV r) (o : Out n lim ns G r ns')
    (h : At w F (Star (ObjA ob (prO n (r.getD 0) u.1)) (Star (MgrA m n lim ns') (Star VV (Star (PinA [(o1, tbO n ou.1), (z0, tbO n zu.1), (ab, actO K A Bb C V), (xb, prO n px.ref px.u.1), (yb, prO n py.ref py.u.1), (zb, prO n pz.ref pz.u.1)]) (Star (ObjA rb zP) (Star (OwnA lv 53 3 (prE n) l) (Star (VwsA bv (DoPs n l zu ou ++ [(u, tab n G)])) B))))))) wa) : Do4 m n lim rb ns l lv B w F ρ wa := by
  refine ⟨g8, ob, g16, ns', o.ext, o.cap, o.len, ?_⟩
  have h3 := h.by (Imp.un (Imp.un (Imp.dr.trans Imp.dr)))
  have h4 := h3.by (Imp.un Imp.sw)
  cases hr : r with
  | some x =>
    subst hr
    refine .inl ⟨g17, ⟨x, u, G⟩, o.mean x rfl, ?_⟩
    exact h4.by (Imp.un4 (VwsA.sub fun p hp => by
      simp only [DoPs, List.mem_append, List.mem_singleton] at hp ⊢
      rcases hp with h | h
      · exact .inl (.inl (.inl h))
      · exact .inr h))
  | none =>
    subst hr
    refine .inr ⟨g17, o.full rfl, 0, u, ?_⟩
    exact h4.by (Imp.un4 (VwsA.sub fun p hp => by
      simp only [DoPs, List.mem_append]
      exact .inl (.inl (.inl hp))))
/-- A new table. -/
theorem tbl_add {u : Value} {T : List Bool} {ps : List (Cell1 × List Bool)} {A1 A2 A3 A4 A5 A6 X : Asr} (h : At w F (Star (OwnA u 4 1 bv T) (Star A1 (Star A2 (Star A3 (Star A4 (Star A5 (Star A6 (Star (VwsA bv ps) X)))))))) wa) :
    ∃ ho : oneC u = true, At w F (Star A1 (Star A2 (Star A3 (Star A4 (Star A5 (Star A6 (Star (VwsA bv (ps ++ [(⟨u, ho⟩, T)])) X))))))) wa :=
  ⟨h.own.o1, h.own_vw.by (Imp.d6.trans (Imp.un2 (Imp.un4 (VwsA.add h.own.o1))))⟩
/-- A table that may be one of those that are there. -/
theorem tbl_mix {u fv : Value} {T : List Bool} {ps : List (Cell1 × List Bool)} {A1 A2 A3 A4 A5 A6 X : Asr} {p : Cell1 × List Bool} {w2 : World} (h1 : Lcl A1) (h2 : Lcl A2) (h3 : Lcl A3) (h4 : Lcl A4) (h5 : Lcl A5) (h6 : Lcl A6) (hX : Lcl X)
    (h : At w F (Star A1 (Star A2 (Star A3 (Star A4 (Star A5 (Star A6 (Star (VwsA bv ps) X))))))) wa) (hk : Kp [] wa w2) (hv : Vw w2 u bv T) (hT : T ≠ []) (hu : u = fv ∨ ∀ z ∈ u.own, wa.heap.size ≤ z) (hp : p ∈ ps) (hpf : p.1.1 = fv) :
    At w F (Star A1 (Star A2 (Star A3 (Star A4 (Star A5 (Star A6 (Star (VwsA bv (ps ++ [(⟨u, hv.o1⟩, T)])) X))))))) w2 :=
  (VwsA.mix (h1.star (h2.star (h3.star (h4.star (h5.star (h6.star hX)))))) (h.by Imp.r7) hk hv hT hu hp hpf).by Imp.d6
/-- The reference is stored. -/
theorem st_ref {x : Nat} {KW : Kont World} {X : Asr} (hX : Lcl X) (h : At w F (Star (ObjA ob zP) X) wa) (H : ∀ w2, At w F (Star (ObjA ob (prO 0 x (.slice none 0 0))) X) w2 → KW.run w2) : @stJ wa ⟨ob, 0, none⟩ [.int .i64 (x : Nat)] KW := by
  have h1 := h
  unfold zP at h1
  exact h1.st hX (by simp) (by simp) fun w2 h2 => H w2 (by simpa [prO] using h2)
theorem st_tab {x : Nat} {u : Cell1} {KW : Kont World} {X : Asr} (hX : Lcl X) (h : At w F (Star (ObjA ob (prO 0 x (.slice none 0 0))) X) wa) (H : ∀ w2, At w F (Star (ObjA ob (prO n x u.1)) X) w2 → KW.run w2) : @stJ wa ⟨ob, 1, none⟩ [.int .i64 (n : Nat), u.1] KW := by
  have h1 := h
  unfold prO at h1
  exact h1.st hX (by simp) (by simp [u.2]) fun w2 h2 => H w2 (by simpa [prO] using h2)
end
def Do3 (m n lim ab rb xb yb zb K A Bb C V : Nat) (px py pz : Pr) (ns : Ns) (l : List Pr) (lv : Value) (B : Asr) (w : World) (F : List Nat) (z0 o1 : Nat) (zu ou : Cell1) (vv : Value) (ob : Nat) (ρ : Env) (w' : World) : Prop :=
  Do1 m n ab rb xb yb zb ρ ∧ ρ 13 = .pointer (some ⟨z0, 0, none⟩) ∧ ρ 14 = .pointer (some ⟨o1, 0, none⟩) ∧ ρ 15 = vv ∧ ρ 16 = .pointer (some ⟨ob, 0, none⟩) ∧
  At w F (Star (MgrA m n lim ns) (Star (OwnA vv 3 1 iv (chI n V)) (Star (ObjA ob zP) (Star (PinA [(o1, tbO n ou.1), (z0, tbO n zu.1), (ab, actO K A Bb C V), (xb, prO n px.ref px.u.1), (yb, prO n py.ref py.u.1), (zb, prO n pz.ref pz.u.1)]) (Star (ObjA rb zP) (Star (OwnA lv 53 3 (prE n) l) (Star (VwsA bv (DoPs n l zu ou)) B))))))) w'
def DoV (m n lim ab rb xb yb zb K A Bb C V : Nat) (px py pz : Pr) (ns : Ns) (l : List Pr) (lv : Value) (B : Asr) (w : World) (F : List Nat) (z0 o1 : Nat) (zu ou : Cell1) (vv : Value) (ρ : Env) (w' : World) : Prop :=
  Do1 m n ab rb xb yb zb ρ ∧ ρ 13 = .pointer (some ⟨z0, 0, none⟩) ∧ ρ 14 = .pointer (some ⟨o1, 0, none⟩) ∧ ρ 15 = vv ∧
  At w F (Star (MgrA m n lim ns) (Star (OwnA vv 3 1 iv (chI n V)) (Star (PinA [(o1, tbO n ou.1), (z0, tbO n zu.1), (ab, actO K A Bb C V), (xb, prO n px.ref px.u.1), (yb, prO n py.ref py.u.1), (zb, prO n pz.ref pz.u.1)]) (Star (ObjA rb zP) (Star (OwnA lv 53 3 (prE n) l) (Star (VwsA bv (DoPs n l zu ou)) B)))))) w'
/-- Behind the operation of an act. -/
def DoM (m n lim ab rb xb yb zb K A Bb C V : Nat) (px py pz : Pr) (ns : Ns) (l : List Pr) (lv : Value) (B : Asr) (w : World) (F : List Nat) (z0 o1 : Nat) (zu ou : Cell1) (vv : Value) (ob : Nat) (G : (Nat → Bool) → Bool) (ρ : Env) (w' : World) : Prop :=
  ∃ r ns', Out n lim ns G r ns' ∧ Do1 m n ab rb xb yb zb ρ ∧ ρ 13 = .pointer (some ⟨z0, 0, none⟩) ∧ ρ 14 = .pointer (some ⟨o1, 0, none⟩) ∧ ρ 15 = vv ∧ ρ 16 = .pointer (some ⟨ob, 0, none⟩) ∧ ρ 17 = eV r ∧
  At w F (Star (ObjA ob (prO 0 (r.getD 0) (.slice none 0 0))) (Star (MgrA m n lim ns') (Star (VwA vv iv (chI n V)) (Star (PinA [(o1, tbO n ou.1), (z0, tbO n zu.1), (ab, actO K A Bb C V), (xb, prO n px.ref px.u.1), (yb, prO n py.ref py.u.1), (zb, prO n pz.ref pz.u.1)]) (Star (ObjA rb zP) (Star (OwnA lv 53 3 (prE n) l) (Star (VwsA bv (DoPs n l zu ou)) B))))))) w'
/-- What an act gives. -/
def DoPost (m n lim : Nat) (ns : Ns) (l : List Pr) (lv : Value) (B : Asr) (w : World) (F : List Nat) (v : Value) (w' : World) : Prop :=
  ∃ ns', Ext n ns ns' ∧ ns'.length ≤ lim ∧ ns'.length ≤ ns.length + 200 ∧
    ((∃ p : Pr, Mean n ns' p.ref p.f ∧ v = .tuple #[prV n p.ref p.u.1, .int .i64 0] ∧ At w F (Star (MgrA m n lim ns') (Star (OwnA lv 53 3 (prE n) l) (Star (VwsA bv (psOf n (l ++ [p]))) B))) w') ∨
     (∃ (x : Nat) (u : Cell1), v = .tuple #[prV n x u.1, .int .i64 10] ∧ lim < ns.length + 200 ∧ At w F (Star (MgrA m n lim ns') (DoL lv n l B)) w'))
set_option maxHeartbeats 4000000 in
theorem do_spec {w w1 : World} {F : List Nat} {B : Asr} (m n lim : Nat) (ns : Ns) (l : List Pr) (lv : Value) (K A Bb C V : Nat) (hB : Lcl B) (hn : n ≤ 5) (hK : K ≤ 255) (hAb : A ≤ 255) (hBb : Bb ≤ 255) (hCb : C ≤ 255) (hVb : V ≤ 255) (hl0 : l ≠ []) (hl1 : l.length ≤ 100)
    (hA : At w F (Star (MgrA m n lim ns) (DoL lv n l B)) w1) (hw : Wf n ns) (hb : Bnd n lim ns) (hM : ∀ p ∈ l, Mean n ns p.ref p.f) :
    Calls Try.prog 34 [.pointer (some ⟨m, 0, none⟩), .int .i64 (n : Nat), lv, actV K A Bb C V].toArray w1 fun e w' => ∃ x, e = .returned x ∧ DoPost m n lim ns l lv B w F x w' := by
  obtain ⟨d, hd⟩ : ∃ d, d = l.head hl0 := ⟨_, rfl⟩
  obtain ⟨len, hlen⟩ : ∃ len, len = l.length := ⟨_, rfl⟩
  have hlp : 0 < len := by rw [hlen]; exact List.length_pos_iff.2 hl0
  have hLM : Lcl (Star (MgrA m n lim ns) (DoL lv n l B)) := Lcl.mgr.star (DoL.lcl hB)
  refine enter Try.func34 mixed low34 (Nat.le_of_ble_eq_true rfl) ?_
  simp only [L34]
  -- the act and the place of the result
  have h1 : At w F (Star (ObjA w1.heap.size (actO K A Bb C V)) (Star (MgrA m n lim ns) (DoL lv n l B))) _ := hA.alloc (actO K A Bb C V) hLM
  have h2 : At w F (Star (ObjA (w1.alloc (actO K A Bb C V)).heap.size zP) (Star (ObjA w1.heap.size (actO K A Bb C V)) (Star (MgrA m n lim ns) (DoL lv n l B)))) _ := h1.alloc zP (.star .obj hLM)
  rw [show (w1.alloc (actO K A Bb C V)).heap.size = w1.heap.size + 1 by simp] at h2
  obtain ⟨ab, hab⟩ : ∃ ab, ab = w1.heap.size := ⟨_, rfl⟩
  obtain ⟨rb, hrb⟩ : ∃ rb, rb = ab + 1 := ⟨_, rfl⟩
  rw [← hab, ← hrb] at h2
  have hL2 : ∀ {o1 o2 : Obj}, Lcl (Star (ObjA rb o1) (Star (ObjA ab o2) (Star (MgrA m n lim ns) (DoL lv n l B)))) := .star .obj (.star .obj hLM)
  refine seq_cut (fun ρ w' => ρ 0 = .pointer (some ⟨m, 0, none⟩) ∧ ρ 1 = .int .i64 (n : Nat) ∧ ρ 2 = lv ∧ ρ 7 = .pointer (some ⟨ab, 0, none⟩) ∧ ρ 8 = .pointer (some ⟨rb, 0, none⟩) ∧ At w F (Star (ObjA rb zP) (Star (ObjA ab (actO K A Bb C V)) (Star (MgrA m n lim ns) (DoL lv n l B)))) w') ?_ ?_
  · simp [actV, ← hab, ← hrb]
    exact h2
  rintro ρ w2 ⟨g0, g1, g2, g7, g8, h3⟩
  -- the pairs
  obtain ⟨pk, pick⟩ : ∃ pk : Nat → Pr, ∀ x : Nat, l[x % len]? = some (pk x) := ⟨fun x => l.getD (x % len) d, fun x => by
    have : x % len < l.length := by rw [← hlen]; exact Nat.mod_lt _ hlp
    simp [List.getD, List.getElem?_eq_getElem this]⟩
  refine seq_cut (fun ρ w' => ∃ xb yb zb, Do1 m n ab rb xb yb zb ρ ∧ At w F (Star (PinA [(ab, actO K A Bb C V), (xb, prO n (pk A).ref (pk A).u.1), (yb, prO n (pk Bb).ref (pk Bb).u.1), (zb, prO n (pk C).ref (pk C).u.1)]) (Star (ObjA rb zP) (Star (MgrA m n lim ns) (DoL lv n l B)))) w') ?_ ?_
  · refine any_vars (SelF lv ab len n pk [(1, A), (2, Bb), (3, C)]) SelNew (SelSt (prO n (pk A).ref (pk A).u.1) (prO n (pk Bb).ref (pk Bb).u.1) (prO n (pk C).ref (pk C).u.1)) (by kernel_rfl) ?_ ?_ ?_ ?_ ?_ ?_ ?_
    · intro i hi
      unfold SelNew at hi
      split at hi <;> first | rfl | cases hi
    · intro i j o hi
      unfold SelSt at hi
      split at hi <;> first | (cases hi; rfl) | cases hi
    · intro i i' j o o' hi hi'
      unfold SelSt at hi hi'
      split at hi <;> first | (cases hi; split at hi' <;> first | rfl | cases hi') | cases hi
    · intro i ρ' w' hi hAi hSi hkp hold hdp
      have hi : i < 33 := hi
      have o2 : ρ' 2 = lv := by rw [hold 2 (by decide)]; exact g2
      have o7 : ρ' 7 = .pointer (some ⟨ab, 0, none⟩) := by rw [hold 7 (by decide)]; exact g7
      have h4 := h3.kp0 hL2 hkp
      have oa := h4.drop.obj
      have ho : Own w' lv 53 3 (prE n) l := h4.drop.drop.drop.own
      unfold actO at oa
      have e : i = 0 ∨ i = 1 ∨ i = 2 ∨ i = 3 ∨ i = 4 ∨ i = 5 ∨ i = 6 ∨ i = 7 ∨ i = 8 ∨ i = 9 ∨ i = 10 ∨ i = 11 ∨ i = 12 ∨ i = 13 ∨ i = 14 ∨ i = 15 ∨ i = 16 ∨ i = 17 ∨ i = 18 ∨ i = 19 ∨ i = 20 ∨ i = 21 ∨ i = 22 ∨ i = 23 ∨ i = 24 ∨ i = 25 ∨ i = 26 ∨ i = 27 ∨ i = 28 ∨ i = 29 ∨ i = 30 ∨ i = 31 ∨ i = 32 := by omega
      rcases e with rfl | rfl | rfl | rfl | rfl | rfl | rfl | rfl | rfl | rfl | rfl | rfl | rfl | rfl | rfl | rfl | rfl | rfl | rfl | rfl | rfl | rfl | rfl | rfl | rfl | rfl | rfl | rfl | rfl | rfl | rfl | rfl | rfl
      · simp [o2]
        exact ⟨_, rfl, Kp.refl _ _, rfl⟩
      · simp [o7]
        exact ⟨_, rfl, Kp.refl _ _, rfl⟩
      · have f1 := hdp 1 (by decide) (by decide) rfl rfl
        simp [dstN, SelF, selV] at f1
        simp [f1, cell_blk oa]
        exact ⟨_, rfl, Kp.refl _ _, rfl⟩
      · have f2 := hdp 2 (by decide) (by decide) rfl rfl
        simp [dstN, SelF, selV] at f2
        simp (disch := omega) [f2, wrap_i64]
        exact ⟨_, rfl, Kp.refl _ _, rfl⟩
      · simp [o2]
        exact ⟨_, rfl, Kp.refl _ _, rfl⟩
      · have f4 := hdp 4 (by decide) (by decide) rfl rfl
        simp [dstN, SelF, selV] at f4
        simp [f4, ho.len]
        rw [← hlen]
        exact ⟨_, rfl, Kp.refl _ _, rfl⟩
      · have f3 := hdp 3 (by decide) (by decide) rfl rfl
        have f5 := hdp 5 (by decide) (by decide) rfl rfl
        simp [dstN, SelF, selV] at f3 f5
        simp [f3, f5]
        refine gd_mk (by omega) ?_
        simp
        exact ⟨_, rfl, Kp.refl _ _, by rw [Int.tmod_eq_emod_of_nonneg (Int.natCast_nonneg _), ← Int.natCast_emod] <;> rfl⟩
      · have f0 := hdp 0 (by decide) (by decide) rfl rfl
        have f6 := hdp 6 (by decide) (by decide) rfl rfl
        simp [dstN, SelF, selV] at f0 f6
        have hx : A % len < l.length := by rw [← hlen]; exact Nat.mod_lt _ hlp
        have hx2 : (((A % len : Nat) : Int)).toNat = A % len := Int.toNat_natCast _
        simp (disch := omega) [f0, f6, ho.idx]
        exact ⟨_, rfl, Kp.refl _ _, rfl⟩
      · have f7 := hdp 7 (by decide) (by decide) rfl rfl
        simp [dstN, SelF, selV] at f7
        have hc := ho.cells (prE_len n) (pick A)
        simp [f7, hc]
        exact ⟨_, rfl, Kp.refl _ _, rfl⟩
      · simp [o2]
        exact ⟨_, rfl, Kp.refl _ _, rfl⟩
      · simp [o7]
        exact ⟨_, rfl, Kp.refl _ _, rfl⟩
      · have f10 := hdp 10 (by decide) (by decide) rfl rfl
        simp [dstN, SelF, selV] at f10
        simp [f10, cell_blk oa]
        exact ⟨_, rfl, Kp.refl _ _, rfl⟩
      · have f11 := hdp 11 (by decide) (by decide) rfl rfl
        simp [dstN, SelF, selV] at f11
        simp (disch := omega) [f11, wrap_i64]
        exact ⟨_, rfl, Kp.refl _ _, rfl⟩
      · simp [o2]
        exact ⟨_, rfl, Kp.refl _ _, rfl⟩
      · have f13 := hdp 13 (by decide) (by decide) rfl rfl
        simp [dstN, SelF, selV] at f13
        simp [f13, ho.len]
        rw [← hlen]
        exact ⟨_, rfl, Kp.refl _ _, rfl⟩
      · have f12 := hdp 12 (by decide) (by decide) rfl rfl
        have f14 := hdp 14 (by decide) (by decide) rfl rfl
        simp [dstN, SelF, selV] at f12 f14
        simp [f12, f14]
        refine gd_mk (by omega) ?_
        simp
        exact ⟨_, rfl, Kp.refl _ _, by rw [Int.tmod_eq_emod_of_nonneg (Int.natCast_nonneg _), ← Int.natCast_emod] <;> rfl⟩
      · have f9 := hdp 9 (by decide) (by decide) rfl rfl
        have f15 := hdp 15 (by decide) (by decide) rfl rfl
        simp [dstN, SelF, selV] at f9 f15
        have hx : Bb % len < l.length := by rw [← hlen]; exact Nat.mod_lt _ hlp
        have hx2 : (((Bb % len : Nat) : Int)).toNat = Bb % len := Int.toNat_natCast _
        simp (disch := omega) [f9, f15, ho.idx]
        exact ⟨_, rfl, Kp.refl _ _, rfl⟩
      · have f16 := hdp 16 (by decide) (by decide) rfl rfl
        simp [dstN, SelF, selV] at f16
        have hc := ho.cells (prE_len n) (pick Bb)
        simp [f16, hc]
        exact ⟨_, rfl, Kp.refl _ _, rfl⟩
      · simp [o2]
        exact ⟨_, rfl, Kp.refl _ _, rfl⟩
      · simp [o7]
        exact ⟨_, rfl, Kp.refl _ _, rfl⟩
      · have f19 := hdp 19 (by decide) (by decide) rfl rfl
        simp [dstN, SelF, selV] at f19
        simp [f19, cell_blk oa]
        exact ⟨_, rfl, Kp.refl _ _, rfl⟩
      · have f20 := hdp 20 (by decide) (by decide) rfl rfl
        simp [dstN, SelF, selV] at f20
        simp (disch := omega) [f20, wrap_i64]
        exact ⟨_, rfl, Kp.refl _ _, rfl⟩
      · simp [o2]
        exact ⟨_, rfl, Kp.refl _ _, rfl⟩
      · have f22 := hdp 22 (by decide) (by decide) rfl rfl
        simp [dstN, SelF, selV] at f22
        simp [f22, ho.len]
        rw [← hlen]
        exact ⟨_, rfl, Kp.refl _ _, rfl⟩
      · have f21 := hdp 21 (by decide) (by decide) rfl rfl
        have f23 := hdp 23 (by decide) (by decide) rfl rfl
        simp [dstN, SelF, selV] at f21 f23
        simp [f21, f23]
        refine gd_mk (by omega) ?_
        simp
        exact ⟨_, rfl, Kp.refl _ _, by rw [Int.tmod_eq_emod_of_nonneg (Int.natCast_nonneg _), ← Int.natCast_emod] <;> rfl⟩
      · have f18 := hdp 18 (by decide) (by decide) rfl rfl
        have f24 := hdp 24 (by decide) (by decide) rfl rfl
        simp [dstN, SelF, selV] at f18 f24
        have hx : C % len < l.length := by rw [← hlen]; exact Nat.mod_lt _ hlp
        have hx2 : (((C % len : Nat) : Int)).toNat = C % len := Int.toNat_natCast _
        simp (disch := omega) [f18, f24, ho.idx]
        exact ⟨_, rfl, Kp.refl _ _, rfl⟩
      · have f25 := hdp 25 (by decide) (by decide) rfl rfl
        simp [dstN, SelF, selV] at f25
        have hc := ho.cells (prE_len n) (pick C)
        simp [f25, hc]
        exact ⟨_, rfl, Kp.refl _ _, rfl⟩
      · cases hAi
      · cases hAi
      · cases hAi
      · cases hSi
      · cases hSi
      · cases hSi
    · intro i ρ' w' o hi hAi
      have e : i = 27 ∨ i = 28 ∨ i = 29 := by
        unfold SelNew at hAi
        split at hAi <;> first | (cases hAi; done) | skip
        all_goals omega
      rcases e with rfl | rfl | rfl <;>
      · cases hAi
        simp [zP]
    · intro i j o oj p ρ' w' hi hSi hAj hp hh hkp hdp
      have e : i = 30 ∨ i = 31 ∨ i = 32 := by
        unfold SelSt at hSi
        split at hSi <;> first | (cases hSi; done) | skip
        all_goals omega
      rcases e with rfl | rfl | rfl
      · have f8 := hdp 8 (by decide) (by decide) rfl rfl
        cases hSi
        cases hAj
        simp [dstN, SelF, selV] at f8 hp
        unfold zP at hh
        simp [f8, hp, stC_eq, row_blk hh, prE, prO, (pk A).u.2]
      · have f8 := hdp 17 (by decide) (by decide) rfl rfl
        cases hSi
        cases hAj
        simp [dstN, SelF, selV] at f8 hp
        unfold zP at hh
        simp [f8, hp, stC_eq, row_blk hh, prE, prO, (pk Bb).u.2]
      · have f8 := hdp 26 (by decide) (by decide) rfl rfl
        cases hSi
        cases hAj
        simp [dstN, SelF, selV] at f8 hp
        unfold zP at hh
        simp [f8, hp, stC_eq, row_blk hh, prE, prO, (pk C).u.2]
    · intro Y ρ' w' hY hf
      obtain ⟨xb, e10, hx1, _, hx2⟩ := hf.new 27 ((hY 27).2 (by decide)) zP rfl
      obtain ⟨yb, e11, hy1, _, hy2⟩ := hf.new 28 ((hY 28).2 (by decide)) zP rfl
      obtain ⟨zb, e12, hz1, _, hz2⟩ := hf.new 29 ((hY 29).2 (by decide)) zP rfl
      have hx3 := hx2 30 ((hY 30).2 (by decide)) _ rfl
      have hy3 := hy2 31 ((hY 31).2 (by decide)) _ rfl
      have hz3 := hz2 32 ((hY 32).2 (by decide)) _ rfl
      simp [dstN] at e10 e11 e12
      refine ⟨xb, yb, zb, ?_, ?_⟩
      · simp [Do1, g0, g1, g7, g8, e10, e11, e12]
      · have h4 := h3.more (A := PinA [(xb, prO n (pk A).ref (pk A).u.1), (yb, prO n (pk Bb).ref (pk Bb).u.1), (zb, prO n (pk C).ref (pk C).u.1)]) hL2 hf.kp ⟨_, ⟨by
          intro q hq
          simp at hq
          rcases hq with rfl | rfl | rfl
          · exact hx3
          · exact hy3
          · exact hz3, rfl⟩, by simp; exact ⟨hx1, hy1, hz1⟩⟩
        exact h4.by (Imp.r3.trans PinA.add)
  rintro ρ w3 ⟨xb, yb, zb, ⟨g0, g1, g7, g8, g10, g11, g12⟩, h4⟩
  -- false and true
  have hL4 : Lcl (Star (PinA [(ab, actO K A Bb C V), (xb, prO n (pk A).ref (pk A).u.1), (yb, prO n (pk Bb).ref (pk Bb).u.1), (zb, prO n (pk C).ref (pk C).u.1)]) (Star (ObjA rb zP) (Star (MgrA m n lim ns) (DoL lv n l B)))) := .star .pin (.star .obj hLM)
  refine seq_cut (Do2 m n lim ab rb xb yb zb K A Bb C V (pk A) (pk Bb) (pk C) ns l lv B w F) ?_ ?_
  · simp [g1]
    refine cl_of (rConst_spec n false _ (by omega)) ?_
    rintro _ w4 ⟨zu, rfl, hT1⟩
    have h5 := At.tb hL4 h4 hT1
    simp [g1]
    refine cl_of (rConst_spec n true _ (by omega)) ?_
    rintro _ w5 ⟨ou, rfl, hT2⟩
    have h6 := At.tb (.star .own hL4) h5 hT2
    have h7 := h6.alloc zO (.star .own (.star .own hL4))
    have h8 := h7.alloc zO (.star .obj (.star .own (.star .own hL4)))
    rw [show (w5.alloc zO).heap.size = w5.heap.size + 1 by simp] at h8
    simp [tbV, hT1.own.c1, hT2.own.c1]
    have h9 := h8.rot
    unfold zO at h9
    refine h9.st (.star .obj (.star .own (.star .own hL4))) (by simp) (by simp [hT1.own.o1]) fun w6 h10 => ?_
    simp [tbV, hT1.own.c1, hT2.own.c1]
    refine h10.rot.st (.star .obj (.star .own (.star .own hL4))) (by simp) (by simp [hT2.own.o1]) fun w7 h11 => ?_
    simp
    refine ⟨_, _, ⟨zu, hT1.own.o1⟩, ⟨ou, hT2.own.o1⟩, ?_, by simp; rfl, by simp; rfl, ?_⟩
    · simp [Do1, g0, g1, g7, g8, g10, g11, g12]
    · have h12 : At w F (Star (ObjA (w5.heap.size + 1) (tbO n ou)) (Star (ObjA w5.heap.size (tbO n zu)) (Star (OwnA ou 4 1 bv (tab n fun _ => true)) (Star (OwnA zu 4 1 bv (tab n fun _ => false)) (Star (PinA [(ab, actO K A Bb C V), (xb, prO n (pk A).ref (pk A).u.1), (yb, prO n (pk Bb).ref (pk Bb).u.1), (zb, prO n (pk C).ref (pk C).u.1)]) (Star (ObjA rb zP) (Star (MgrA m n lim ns) (DoL lv n l B)))))))) w7 := by simpa [tbO, zO] using h11
      have h13 := ((h12.rot3).own_vw.rot4).own_vw
      exact h13.by ((Imp.un2 ((Imp.un PinA.add).trans PinA.add)).trans (Imp.sw.trans ((Imp.un (Imp.d4.trans (Imp.un4 (VwsA.add hT1.own.o1)))).trans (Imp.d4.trans (Imp.un4 (VwsA.add hT2.own.o1))))))
  rintro ρ w4 ⟨z0, o1, zu, ou, ⟨g0, g1, g7, g8, g10, g11, g12⟩, g13, g14, h5⟩
  obtain ⟨px, hpx⟩ : ∃ px, px = pk A := ⟨_, rfl⟩
  obtain ⟨py, hpy⟩ : ∃ py, py = pk Bb := ⟨_, rfl⟩
  obtain ⟨pz, hpz⟩ : ∃ pz, pz = pk C := ⟨_, rfl⟩
  have mx : px ∈ l := by rw [hpx]; exact List.mem_of_getElem? (pick A)
  have my : py ∈ l := by rw [hpy]; exact List.mem_of_getElem? (pick Bb)
  have mz : pz ∈ l := by rw [hpz]; exact List.mem_of_getElem? (pick C)
  rw [← hpx, ← hpy, ← hpz] at h5
  have hMx := hM px mx
  have hMy := hM py my
  have hMz := hM pz mz
  have hbl := hb.hl
  have hbs := hb.hs
  have p5 := two_mono hn
  have hRest : ∀ {pins : List (Nat × Obj)} {ps : List (Cell1 × List Bool)}, Lcl (Star (PinA pins) (Star (ObjA rb zP) (Star (OwnA lv 53 3 (prE n) l) (Star (VwsA bv ps) B)))) := .star .pin (.star .obj (.star .own (.star .vws hB)))
  have h5 := h5.by (Imp.l3.trans (Imp.sw.trans (Imp.trans (Imp.un Imp.sw) Imp.rfl)))
  refine seq_cut (fun ρ w' => ∃ vv, DoV m n lim ab rb xb yb zb K A Bb C V px py pz ns l lv B w F z0 o1 zu ou vv ρ w') ?_ ?_
  · have ha : w4.heap[ab]? = some (actO K A Bb C V) := h5.drop.pin (.tail _ (.tail _ (.head _)))
    unfold actO at ha
    simp [g1, g7, cell_blk ha]
    refine cl_of (chosen_spec n V _ (by omega)) ?_
    rintro vv w5 hN
    have h6 := At.nw (Lcl.mgr.star hRest) h5 hN
    simp
    exact ⟨vv, by simp [Do1, g0, g1, g7, g8, g10, g11, g12], by simp [g13], by simp [g14], by simp, h6.rot⟩
  clear g0 g1 g7 g8 g10 g11 g12 g13 g14 h5
  rintro ρ w5 ⟨vv, ⟨g0, g1, g7, g8, g10, g11, g12⟩, g13, g14, g15, h5⟩
  refine seq_cut (fun ρ w' => ∃ ob, Do3 m n lim ab rb xb yb zb K A Bb C V px py pz ns l lv B w F z0 o1 zu ou vv ob ρ w') ?_ ?_
  · simp
    have h6 : At w F (Star (ObjA w5.heap.size zP) _) _ := h5.alloc zP (Lcl.mgr.star (Lcl.own.star hRest))
    exact ⟨w5.heap.size, by simp [Do1, g0, g1, g7, g8, g10, g11, g12], by simp [g13], by simp [g14], by simp [g15], by simp, h6.by (Imp.sw.trans (Imp.un Imp.sw))⟩
  clear g0 g1 g7 g8 g10 g11 g12 g13 g14 g15 h5
  rintro ρ w6 ⟨ob, ⟨g0, g1, g7, g8, g10, g11, g12⟩, g13, g14, g15, g16, h6⟩
  refine seq_cut (fun ρ w' => ρ 17 = .nilIface ∧ Do3 m n lim ab rb xb yb zb K A Bb C V px py pz ns l lv B w F z0 o1 zu ou vv ob ρ w') ?_ ?_
  · simp
    exact ⟨by simp [Do1, g0, g1, g7, g8, g10, g11, g12], by simp [g13], by simp [g14], by simp [g15], by simp [g16], h6⟩
  clear g0 g1 g7 g8 g10 g11 g12 g13 g14 g15 g16 h6
  rintro ρ w7 ⟨g17, ⟨g0, g1, g7, g8, g10, g11, g12⟩, g13, g14, g15, g16, h7⟩
  have pf := mst h7 mx my mz
  have h7v := h7.rot.own_vw.rot
  refine seq_cut (Do4 m n lim rb ns l lv B w F) ?_ ?_
  · refine seq_cut (fun ρ w' => ρ 18 = .int .u8 ((K % 11 : Nat) : Int) ∧ ρ 17 = .nilIface ∧ Do3 m n lim ab rb xb yb zb K A Bb C V px py pz ns l lv B w F z0 o1 zu ou vv ob ρ w') ?_ ?_
    · simp [g7, pf.a0]
      refine ⟨by rw [Int.tmod_eq_emod_of_nonneg (by omega)], g17, ?_⟩
      exact ⟨by simp [Do1, g0, g1, g7, g8, g10, g11, g12], by simp [g13], by simp [g14], by simp [g15], by simp [g16], h7⟩
    clear g0 g1 g7 g8 g10 g11 g12 g13 g14 g15 g16 g17 h7 h7v pf
    rintro ρ w7 ⟨g18, g17, ⟨g0, g1, g7, g8, g10, g11, g12⟩, g13, g14, g15, g16, h7⟩
    have pf := mst h7 mx my mz
    have h7v := h7.rot.own_vw.rot
    have hLB : Lcl (Star (VwA vv iv (chI n V)) (Star (ObjA ob zP) (Star (PinA [(o1, tbO n ou.1), (z0, tbO n zu.1), (ab, actO K A Bb C V), (xb, prO n px.ref px.u.1), (yb, prO n py.ref py.u.1), (zb, prO n pz.ref pz.u.1)]) (Star (ObjA rb zP) (Star (OwnA lv 53 3 (prE n) l) (Star (VwsA bv (DoPs n l zu ou)) B)))))) := Lcl.vw.star (Lcl.obj.star hRest)
    have hcl := chN_len n V
    have mpx : (px.u, tab n px.f) ∈ DoPs n l zu ou := List.mem_append_left _ (List.mem_append_left _ (List.mem_map.2 ⟨px, mx, rfl⟩))
    obtain ⟨kk, hkk⟩ : ∃ kk, kk = K % 11 := ⟨_, rfl⟩
    rw [← hkk] at g18
    have hk11 : kk < 11 := by rw [hkk]; exact Nat.mod_lt _ (by omega)
    rcases (show kk = 0 ∨ kk = 1 ∨ kk = 2 ∨ kk = 3 ∨ kk = 4 ∨ kk = 5 ∨ kk = 6 ∨ kk = 7 ∨ kk = 8 ∨ kk = 9 ∨ kk = 10 by omega) with rfl | rfl | rfl | rfl | rfl | rfl | rfl | rfl | rfl | rfl | rfl
    · by_cases hn0 : 0 < n
      · have hn1 : ¬ n = 0 := by omega
        obtain ⟨vi, hvi⟩ : ∃ vi, vi = V % n := ⟨_, rfl⟩
        have hvn : vi < n := by rw [hvi]; exact Nat.mod_lt _ hn0
        have ev : (V : Int).tmod n = (vi : Int) := by rw [hvi, Int.tmod_eq_emod_of_nonneg (by omega)]; simp
        have ew : IntKind.i64.wrap (V : Int) = V := wrap_i64 (by omega) (by omega)
        simp [g18, hn0, hn1, ev, ew, pf.x1, g0, g1, g7, g10, g11, g12, g13, g14, g15, pf.x0, pf.y0, pf.w0, pf.a0, pf.a3, pf.a4]
        refine cl_of (var_spec m n lim ns vi hLB h7v hb hvn) ?_
        rintro _ w8 ⟨rfl, h8⟩
        have oo := Out.var hb.hs hw hvn
        generalize (mkF lim ns vi 0 1).1 = r at h8 oo ⊢
        generalize (mkF lim ns vi 0 1).2 = ns' at h8 oo
        rw [optV_eq]
        have h8r := h8.rot3.by (Imp.un Imp.rfl)
        simp [g16]
        refine st_ref (Lcl.mgr.star (Lcl.vw.star hRest)) h8r ?_
        intro w9 h9
        have pf2 := tst h9 mx my mz
        simp [g0, g1, g7, g10, g11, g12, g13, g14, g15, pf2.x1, pf2.y1, pf2.w1, pf2.zz, pf2.oo, pf2.a0, pf2.a3, pf2.a4, hn1, ev, ew]
        refine cl_of (rVar_spec n vi w9 (by omega) hvn) ?_
        rintro _ w10 ⟨u, rfl, tb⟩
        obtain ⟨ho, h10⟩ := tbl_add (At.tb (Lcl.obj.star (Lcl.mgr.star (Lcl.vw.star hRest))) h9 tb)
        simp [g16, tbV]
        refine st_tab (u := ⟨u, ho⟩) (Lcl.mgr.star (Lcl.vw.star hRest)) h10 ?_
        intro w11 h11
        simp
        exact Do4.mk (by simp [g8]) (by simp [g16]) (by simp) oo h11
      · simp [g18, hn0, pf.x1, g0, g1, g7, g10, g11, g12, g13, g14, g15, pf.x0, pf.y0, pf.w0, pf.a0, pf.a3, pf.a4]
        refine cl_of (shift_spec n V _ px.f w7 (by omega) pf.vx) ?_
        rintro v8 wa ⟨xs, ⟨hnb1, hnb2⟩, nw⟩
        have ha := (At.nw (Lcl.mgr.star (Lcl.own.star (Lcl.obj.star hRest))) h7 nw).own_vw.rot.by (Imp.un2 Imp.dr)
        have pfa := mst ha mx my mz
        simp [g0, g10, pfa.x0]
        refine cl_of (rename_spec m n lim ns px.ref v8 xs (Lcl.vw.star (Lcl.obj.star hRest)) ha hw hb hMx.ref (fun w' F' h => by obtain ⟨Fa, Fb, ⟨h1, _⟩, _⟩ := h; exact h1) (by have := ren_len hnb1; omega)) ?_
        rintro _ w8 ⟨L, hL, ⟨hb1, _⟩ | ⟨_, hb2, _⟩ | ⟨_, _, r, ns', M', rfl, hc, h8⟩⟩
        · rw [sup_eq hMx hw hL] at hb1; exact absurd hb1 hnb1
        · rw [sup_eq hMx hw hL] at hb2; exact absurd hb2 hnb2
        have oo := Out.ren hn hw hMx hL hc
        rw [optV_eq]
        have h8r := h8.rot3.by (Imp.un Imp.rfl)
        simp [g16]
        refine st_ref (Lcl.mgr.star (Lcl.vw.star hRest)) h8r ?_
        intro w9 h9
        have pf2 := tst h9 mx my mz
        simp [g0, g1, g7, g10, g11, g12, g13, g14, g15, pf2.x1, pf2.y1, pf2.w1, pf2.zz, pf2.oo, pf2.a0, pf2.a3, pf2.a4]
        refine cl_of (rRename_spec n _ v8 px.f xs w9 (by omega) pf2.vx h9.drop.drop.vw (ren_ok hnb1)) ?_
        rintro _ w10 ⟨u, rfl, tb⟩
        obtain ⟨ho, h10⟩ := tbl_add (At.tb (Lcl.obj.star (Lcl.mgr.star (Lcl.vw.star hRest))) h9 tb)
        simp [g16, tbV]
        refine st_tab (u := ⟨u, ho⟩) (Lcl.mgr.star (Lcl.vw.star hRest)) h10 ?_
        intro w11 h11
        simp
        exact Do4.mk (by simp [g8]) (by simp [g16]) (by simp) oo h11
    · simp [g18, pf.x1, g0, g1, g7, g10, g11, g12, g13, g14, g15, pf.x0, pf.y0, pf.w0, pf.a0, pf.a3, pf.a4]
      refine cl_of (not_of (R := fun v w' => BinPost m n lim 2 (fun x y => (x, y) ∈ pairs n 2 ns n px.ref 1) ns px.ref 1 _ w F v w') (binary_spec m n lim ns 2 px.ref 1 _ (by omega) hLB h7v hw hb hMx.ref (Ref.one _) (prs_clo hw 2 hMx.ref (Ref.one _)).2 (prs_clo hw 2 hMx.ref (Ref.one _)).1) (by rintro v w' ⟨r, ns', rfl, _⟩; exact optV_tup r)) ?_
      rintro _ w8 ⟨r, ns', rfl, hbo, h8⟩
      have oo := Out.bin (G := iteF px.f (fun _ => false) (fun _ => true)) hn hMx (Mean.one _ _) hbo fun a => by simp [opB, iteF]
      rw [optV_eq]
      have h8r := h8.rot3.by (Imp.un Imp.rfl)
      simp [g16]
      refine st_ref (Lcl.mgr.star (Lcl.vw.star hRest)) h8r ?_
      intro w9 h9
      have pf2 := tst h9 mx my mz
      simp [g0, g1, g7, g10, g11, g12, g13, g14, g15, pf2.x1, pf2.y1, pf2.w1, pf2.zz, pf2.oo, pf2.a0, pf2.a3, pf2.a4]
      refine cl_of (rIte_spec n _ _ _ px.f (fun _ => false) (fun _ => true) w9 (by omega) pf2.vx pf2.vzu pf2.vou) ?_
      rintro _ w10 ⟨u, rfl, tb⟩
      obtain ⟨ho, h10⟩ := tbl_add (At.tb (Lcl.obj.star (Lcl.mgr.star (Lcl.vw.star hRest))) h9 tb)
      simp [g16, tbV]
      refine st_tab (u := ⟨u, ho⟩) (Lcl.mgr.star (Lcl.vw.star hRest)) h10 ?_
      intro w11 h11
      simp
      exact Do4.mk (by simp [g8]) (by simp [g16]) (by simp) oo h11
    · simp [g18, pf.x1, g0, g1, g7, g10, g11, g12, g13, g14, g15, pf.x0, pf.y0, pf.w0, pf.a0, pf.a3, pf.a4]
      refine cl_of (and_of (R := fun v w' => BinPost m n lim 0 (fun x y => (x, y) ∈ pairs n 0 ns n px.ref py.ref) ns px.ref py.ref _ w F v w') (binary_spec m n lim ns 0 px.ref py.ref _ (by omega) hLB h7v hw hb hMx.ref hMy.ref (prs_clo hw 0 hMx.ref hMy.ref).2 (prs_clo hw 0 hMx.ref hMy.ref).1) (by rintro v w' ⟨r, ns', rfl, _⟩; exact optV_tup r)) ?_
      rintro _ w8 ⟨r, ns', rfl, hbo, h8⟩
      have oo := Out.bin (G := iteF px.f py.f (fun _ => false)) hn hMx hMy hbo fun a => by simp [opB, iteF]
      rw [optV_eq]
      have h8r := h8.rot3.by (Imp.un Imp.rfl)
      simp [g16]
      refine st_ref (Lcl.mgr.star (Lcl.vw.star hRest)) h8r ?_
      intro w9 h9
      have pf2 := tst h9 mx my mz
      simp [g0, g1, g7, g10, g11, g12, g13, g14, g15, pf2.x1, pf2.y1, pf2.w1, pf2.zz, pf2.oo, pf2.a0, pf2.a3, pf2.a4]
      refine cl_of (rIte_spec n _ _ _ px.f py.f (fun _ => false) w9 (by omega) pf2.vx pf2.vy pf2.vzu) ?_
      rintro _ w10 ⟨u, rfl, tb⟩
      obtain ⟨ho, h10⟩ := tbl_add (At.tb (Lcl.obj.star (Lcl.mgr.star (Lcl.vw.star hRest))) h9 tb)
      simp [g16, tbV]
      refine st_tab (u := ⟨u, ho⟩) (Lcl.mgr.star (Lcl.vw.star hRest)) h10 ?_
      intro w11 h11
      simp
      exact Do4.mk (by simp [g8]) (by simp [g16]) (by simp) oo h11
    · simp [g18, pf.x1, g0, g1, g7, g10, g11, g12, g13, g14, g15, pf.x0, pf.y0, pf.w0, pf.a0, pf.a3, pf.a4]
      refine cl_of (or_of (R := fun v w' => BinPost m n lim 1 (fun x y => (x, y) ∈ pairs n 1 ns n px.ref py.ref) ns px.ref py.ref _ w F v w') (binary_spec m n lim ns 1 px.ref py.ref _ (by omega) hLB h7v hw hb hMx.ref hMy.ref (prs_clo hw 1 hMx.ref hMy.ref).2 (prs_clo hw 1 hMx.ref hMy.ref).1) (by rintro v w' ⟨r, ns', rfl, _⟩; exact optV_tup r)) ?_
      rintro _ w8 ⟨r, ns', rfl, hbo, h8⟩
      have oo := Out.bin (G := iteF px.f (fun _ => true) py.f) hn hMx hMy hbo fun a => by simp [opB, iteF]
      rw [optV_eq]
      have h8r := h8.rot3.by (Imp.un Imp.rfl)
      simp [g16]
      refine st_ref (Lcl.mgr.star (Lcl.vw.star hRest)) h8r ?_
      intro w9 h9
      have pf2 := tst h9 mx my mz
      simp [g0, g1, g7, g10, g11, g12, g13, g14, g15, pf2.x1, pf2.y1, pf2.w1, pf2.zz, pf2.oo, pf2.a0, pf2.a3, pf2.a4]
      refine cl_of (rIte_spec n _ _ _ px.f (fun _ => true) py.f w9 (by omega) pf2.vx pf2.vou pf2.vy) ?_
      rintro _ w10 ⟨u, rfl, tb⟩
      obtain ⟨ho, h10⟩ := tbl_add (At.tb (Lcl.obj.star (Lcl.mgr.star (Lcl.vw.star hRest))) h9 tb)
      simp [g16, tbV]
      refine st_tab (u := ⟨u, ho⟩) (Lcl.mgr.star (Lcl.vw.star hRest)) h10 ?_
      intro w11 h11
      simp
      exact Do4.mk (by simp [g8]) (by simp [g16]) (by simp) oo h11
    · simp [g18, pf.x1, g0, g1, g7, g10, g11, g12, g13, g14, g15, pf.x0, pf.y0, pf.w0, pf.a0, pf.a3, pf.a4]
      refine cl_of (xor_of (R := fun v w' => BinPost m n lim 2 (fun x y => (x, y) ∈ pairs n 2 ns n px.ref py.ref) ns px.ref py.ref _ w F v w') (binary_spec m n lim ns 2 px.ref py.ref _ (by omega) hLB h7v hw hb hMx.ref hMy.ref (prs_clo hw 2 hMx.ref hMy.ref).2 (prs_clo hw 2 hMx.ref hMy.ref).1) (by rintro v w' ⟨r, ns', rfl, _⟩; exact optV_tup r)) ?_
      rintro _ w8 ⟨r, ns', rfl, hbo, h8⟩
      have oo := Out.bin (G := iteF px.f (iteF py.f (fun _ => false) (fun _ => true)) py.f) hn hMx hMy hbo fun a => by simp [opB, iteF]; cases px.f a <;> cases py.f a <;> rfl
      rw [optV_eq]
      have h8r := h8.rot3.by (Imp.un Imp.rfl)
      simp [g16]
      refine st_ref (Lcl.mgr.star (Lcl.vw.star hRest)) h8r ?_
      intro w9 h9
      have pf2 := tst h9 mx my mz
      simp [g0, g1, g7, g10, g11, g12, g13, g14, g15, pf2.x1, pf2.y1, pf2.w1, pf2.zz, pf2.oo, pf2.a0, pf2.a3, pf2.a4]
      have h9 := h9.drew (Lcl.obj.star (Lcl.mgr.star (Lcl.vw.star hRest)))
      have pf2 := tst h9 mx my mz
      refine ⟨?_, ?_, ?_, ?_⟩ <;>
      · refine cl_of (rIte_spec n _ _ _ py.f (fun _ => false) (fun _ => true) w9.drew (by omega) pf2.vy pf2.vzu pf2.vou) ?_
        rintro _ wb ⟨u0, rfl, tb0⟩
        obtain ⟨ho0, hb9⟩ := tbl_add (At.tb (Lcl.obj.star (Lcl.mgr.star (Lcl.vw.star hRest))) h9 tb0)
        have pf3 := tstS hb9 mx my mz (DoSub.snoc DoSub.refl)
        have hu0 : Vw wb u0 bv (tab n (iteF py.f (fun _ => false) (fun _ => true))) := tb0.own.vw
        simp [tbV, g10, g11, pf3.x1, pf3.y1]
        refine cl_of (rIte_spec n _ _ _ px.f (iteF py.f (fun _ => false) (fun _ => true)) py.f wb (by omega) pf3.vx hu0 pf3.vy) ?_
        rintro _ w10 ⟨u, rfl, tb⟩
        obtain ⟨ho, h10⟩ := tbl_add (At.tb (Lcl.obj.star (Lcl.mgr.star (Lcl.vw.star hRest))) hb9 tb)
        have h10 := h10.by (Imp.trans (Imp.un4 (Imp.un2 (VwsA.sub dropMid))) Imp.rfl)
        simp [g16, tbV]
        refine st_tab (u := ⟨u, ho⟩) (Lcl.mgr.star (Lcl.vw.star hRest)) h10 ?_
        intro w11 h11
        simp
        exact Do4.mk (by simp [g8]) (by simp [g16]) (by simp) oo h11
    · simp [g18, pf.x1, g0, g1, g7, g10, g11, g12, g13, g14, g15, pf.x0, pf.y0, pf.w0, pf.a0, pf.a3, pf.a4]
      refine cl_of (Ite_spec m n lim ns px.ref py.ref pz.ref (by omega) hLB h7v hw hb hMx.ref hMy.ref hMz.ref) ?_
      rintro _ w8 ⟨r, ns', M', rfl, hio, h8⟩
      have oo := Out.ite hn hMx hMy hMz hio
      rw [optV_eq]
      have h8r := h8.rot3.by (Imp.un Imp.rfl)
      simp [g16]
      refine st_ref (Lcl.mgr.star (Lcl.vw.star hRest)) h8r ?_
      intro w9 h9
      have pf2 := tst h9 mx my mz
      simp [g0, g1, g7, g10, g11, g12, g13, g14, g15, pf2.x1, pf2.y1, pf2.w1, pf2.zz, pf2.oo, pf2.a0, pf2.a3, pf2.a4]
      refine cl_of (rIte_spec n _ _ _ px.f py.f pz.f w9 (by omega) pf2.vx pf2.vy pf2.vz) ?_
      rintro _ w10 ⟨u, rfl, tb⟩
      obtain ⟨ho, h10⟩ := tbl_add (At.tb (Lcl.obj.star (Lcl.mgr.star (Lcl.vw.star hRest))) h9 tb)
      simp [g16, tbV]
      refine st_tab (u := ⟨u, ho⟩) (Lcl.mgr.star (Lcl.vw.star hRest)) h10 ?_
      intro w11 h11
      simp
      exact Do4.mk (by simp [g8]) (by simp [g16]) (by simp) oo h11
    · simp [g18, pf.x1, g0, g1, g7, g10, g11, g12, g13, g14, g15, pf.x0, pf.y0, pf.w0, pf.a0, pf.a3, pf.a4]
      have h7 := h7.drew (Lcl.mgr.star (Lcl.own.star (Lcl.obj.star hRest)))
      refine ⟨?_, ?_⟩ <;>
      · refine At.appendKV (xs := chI n V) (Lcl.mgr.star (Lcl.obj.star hRest)) h7.rot h7.rot.own.vw iv_len iv_one sl_30 (by rw [chI_len]; omega) (by rw [chI_len]; simp only [maxLen]; omega) ?_
        intro v8 wa R8 hR8 hva hback
        have hva2 := hva.rot3
        have pfa := mstA hva2 mx my mz
        simp [g0, g10, pfa.x0]
        refine cl_of (exists_of (R := fun v w' => QuPost m n lim 1 _ _ ns px.ref _ w F v w') (quantified_spec m n lim ns 1 px.ref v8 (chI n V ++ chI n V) (by omega) (hR8.star (Lcl.obj.star hRest)) hva2 hw hb hMx.ref (by simp [chI_len]; omega) (by rw [List.all_append, chI_all, Bool.and_true])) (by rintro v w' ⟨r, ns', M', rfl, _⟩; exact optV_tup r)) ?_
        rintro _ w8 ⟨r, ns', M', rfl, hq, h8⟩
        have oo := Out.qua (l := chN n V) (by omega) hn hMx (fun x hx => chN_lt x hx) (fun i => by rw [List.mem_append, or_self]; exact chI_mem) (fun x hx => chI_lt (by simpa using hx)) hq
        rw [optV_eq]
        have h8 := h8.rot.by (Imp.trans (Imp.un Imp.sw) (Imp.trans (hback (chI n V) _) Imp.rfl))
        have h8 := h8.rot
        have h8r := h8.rot3.by (Imp.un Imp.rfl)
        simp [g16]
        refine st_ref (Lcl.mgr.star (Lcl.vw.star hRest)) h8r ?_
        intro w9 h9
        have pf2 := tst h9 mx my mz
        simp [g0, g1, g7, g10, g11, g12, g13, g14, g15, pf2.x1, pf2.y1, pf2.w1, pf2.zz, pf2.oo, pf2.a0, pf2.a3, pf2.a4]
        refine cl_of (rQuantify_spec n _ _ px.f (chN n V) false w9 (by omega) pf2.vx (h9.drop.drop.vw) (fun x hx => chN_lt x hx) (by omega)) ?_
        rintro _ w10 ⟨u, rfl, k10, v10, hu10⟩
        have ho := v10.o1
        have h10 := tbl_mix .obj Lcl.mgr .vw .pin .obj .own hB h9 k10 v10 (tab_ne _ _) hu10 mpx rfl
        simp [g16, tbV]
        refine st_tab (u := ⟨u, ho⟩) (Lcl.mgr.star (Lcl.vw.star hRest)) h10 ?_
        intro w11 h11
        simp
        exact Do4.mk (by simp [g8]) (by simp [g16]) (by simp) oo h11
    · simp [g18, pf.x1, g0, g1, g7, g10, g11, g12, g13, g14, g15, pf.x0, pf.y0, pf.w0, pf.a0, pf.a3, pf.a4]
      refine cl_of (forall_of (R := fun v w' => QuPost m n lim 0 _ _ ns px.ref _ w F v w') (quantified_spec m n lim ns 0 px.ref vv (chI n V) (by omega) (Lcl.obj.star hRest) h7v hw hb hMx.ref (by rw [chI_len]; omega) chI_all) (by rintro v w' ⟨r, ns', M', rfl, _⟩; exact optV_tup r)) ?_
      rintro _ w8 ⟨r, ns', M', rfl, hq, h8⟩
      have oo := Out.qua (l := chN n V) (by omega) hn hMx (fun x hx => chN_lt x hx) (fun i => chI_mem) (fun x hx => chI_lt hx) hq
      rw [optV_eq]
      have h8r := h8.rot3.by (Imp.un Imp.rfl)
      simp [g16]
      refine st_ref (Lcl.mgr.star (Lcl.vw.star hRest)) h8r ?_
      intro w9 h9
      have pf2 := tst h9 mx my mz
      simp [g0, g1, g7, g10, g11, g12, g13, g14, g15, pf2.x1, pf2.y1, pf2.w1, pf2.zz, pf2.oo, pf2.a0, pf2.a3, pf2.a4]
      refine cl_of (rQuantify_spec n _ _ px.f (chN n V) true w9 (by omega) pf2.vx (h9.drop.drop.vw) (fun x hx => chN_lt x hx) (by omega)) ?_
      rintro _ w10 ⟨u, rfl, k10, v10, hu10⟩
      have ho := v10.o1
      have h10 := tbl_mix .obj Lcl.mgr .vw .pin .obj .own hB h9 k10 v10 (tab_ne _ _) hu10 mpx rfl
      simp [g16, tbV]
      refine st_tab (u := ⟨u, ho⟩) (Lcl.mgr.star (Lcl.vw.star hRest)) h10 ?_
      intro w11 h11
      simp
      exact Do4.mk (by simp [g8]) (by simp [g16]) (by simp) oo h11
    · simp [g18, pf.x1, g0, g1, g7, g10, g11, g12, g13, g14, g15, pf.x0, pf.y0, pf.w0, pf.a0, pf.a3, pf.a4]
      refine cl_of (andExists_spec m n lim ns px.ref py.ref _ vv (chI n V) (Lcl.obj.star hRest) h7v hw hb hMx.ref hMy.ref (prs_clo hw 0 hMx.ref hMy.ref).2 (prs_clo hw 0 hMx.ref hMy.ref).1 (by rw [chI_len]; omega) chI_all) ?_
      rintro _ w8 ⟨r1, r, ns1, ns', M', rfl, hb1, hn1, hq1, h8⟩
      have oo := Out.ae (l := chN n V) hn hMx hMy hb1 (fun x hx => chN_lt x hx) (fun i => chI_mem) (fun x hx => chI_lt hx) hn1 hq1
      rw [optV_eq]
      have h8r := h8.rot3.by (Imp.un Imp.rfl)
      simp [g16]
      refine st_ref (Lcl.mgr.star (Lcl.vw.star hRest)) h8r ?_
      intro w9 h9
      have pf2 := tst h9 mx my mz
      simp [g0, g1, g7, g10, g11, g12, g13, g14, g15, pf2.x1, pf2.y1, pf2.w1, pf2.zz, pf2.oo, pf2.a0, pf2.a3, pf2.a4]
      refine cl_of (rIte_spec n _ _ _ px.f py.f (fun _ => false) w9 (by omega) pf2.vx pf2.vy pf2.vzu) ?_
      rintro _ wb ⟨u0, rfl, tb0⟩
      obtain ⟨ho0, hb9⟩ := tbl_add (At.tb (Lcl.obj.star (Lcl.mgr.star (Lcl.vw.star hRest))) h9 tb0)
      have hu0 : Vw wb u0 bv (tab n (iteF px.f py.f (fun _ => false))) := tb0.own.vw
      simp [tbV, g15]
      refine cl_of (rQuantify_spec n _ _ _ (chN n V) false wb (by omega) hu0 (hb9.drop.drop.vw) (fun x hx => chN_lt x hx) (by omega)) ?_
      rintro _ w10 ⟨u, rfl, k10, v10, hu10⟩
      rw [show (if (false : Bool) = true then 0 else 1) = 1 from rfl, and_ite] at v10
      have ho := v10.o1
      have h10 := tbl_mix .obj Lcl.mgr .vw .pin .obj .own hB hb9 k10 v10 (tab_ne _ _) hu10 (List.mem_append_right _ (.head _)) rfl
      have h10 := h10.by (Imp.trans (Imp.un4 (Imp.un2 (VwsA.sub dropMid))) Imp.rfl)
      simp [g16, tbV]
      refine st_tab (u := ⟨u, ho⟩) (Lcl.mgr.star (Lcl.vw.star hRest)) h10 ?_
      intro w11 h11
      simp
      exact Do4.mk (by simp [g8]) (by simp [g16]) (by simp) oo h11
    · by_cases hn0 : 0 < n
      · have hn1 : ¬ n = 0 := by omega
        obtain ⟨vi, hvi⟩ : ∃ vi, vi = V % n := ⟨_, rfl⟩
        have hvn : vi < n := by rw [hvi]; exact Nat.mod_lt _ hn0
        have ev : (V : Int).tmod n = (vi : Int) := by rw [hvi, Int.tmod_eq_emod_of_nonneg (by omega)]; simp
        have ew : IntKind.i64.wrap (V : Int) = V := wrap_i64 (by omega) (by omega)
        simp [g18, hn0, hn1, ev, ew, pf.x1, g0, g1, g7, g10, g11, g12, g13, g14, g15, pf.x0, pf.y0, pf.w0, pf.a0, pf.a3, pf.a4]
        obtain ⟨y, hy⟩ : ∃ y, ((C : Int).tmod 2 == 1) = y := ⟨_, rfl⟩
        rw [hy]
        refine cl_of (restrict_spec m n lim ns px.ref vi y hLB (h7v.drew (Lcl.mgr.star hLB)) hw hb hMx.ref hvn) ?_
        rintro _ w8 ⟨r, ns', M', rfl, hc, h8⟩
        have oo := Out.res (G := resF px.f vi y) hn hMx hc fun a => rfl
        rw [optV_eq]
        have h8r := h8.rot3.by (Imp.un Imp.rfl)
        simp [g16]
        refine st_ref (Lcl.mgr.star (Lcl.vw.star hRest)) h8r ?_
        intro w9 h9
        have pf2 := tst h9 mx my mz
        simp [g0, g1, g7, g10, g11, g12, g13, g14, g15, pf2.x1, pf2.y1, pf2.w1, pf2.zz, pf2.oo, pf2.a0, pf2.a3, pf2.a4, hn1, ev, ew]
        rw [hy]
        have h9 := h9.drew (Lcl.obj.star (Lcl.mgr.star (Lcl.vw.star hRest)))
        have pf2 := tst h9 mx my mz
        refine cl_of (rRestrict_spec n vi y _ px.f w9.drew (by omega) hvn pf2.vx) ?_
        rintro _ w10 ⟨u, rfl, tb⟩
        obtain ⟨ho, h10⟩ := tbl_add (At.tb (Lcl.obj.star (Lcl.mgr.star (Lcl.vw.star hRest))) h9 tb)
        simp [g16, tbV]
        refine st_tab (u := ⟨u, ho⟩) (Lcl.mgr.star (Lcl.vw.star hRest)) h10 ?_
        intro w11 h11
        simp
        exact Do4.mk (by simp [g8]) (by simp [g16]) (by simp) oo h11
      · simp [g18, hn0, pf.x1, g0, g1, g7, g10, g11, g12, g13, g14, g15, pf.x0, pf.y0, pf.w0, pf.a0, pf.a3, pf.a4]
        refine cl_of (shift_spec n V _ px.f w7 (by omega) pf.vx) ?_
        rintro v8 wa ⟨xs, ⟨hnb1, hnb2⟩, nw⟩
        have ha := (At.nw (Lcl.mgr.star (Lcl.own.star (Lcl.obj.star hRest))) h7 nw).own_vw.rot.by (Imp.un2 Imp.dr)
        have pfa := mst ha mx my mz
        simp [g0, g10, pfa.x0]
        refine cl_of (rename_spec m n lim ns px.ref v8 xs (Lcl.vw.star (Lcl.obj.star hRest)) ha hw hb hMx.ref (fun w' F' h => by obtain ⟨Fa, Fb, ⟨h1, _⟩, _⟩ := h; exact h1) (by have := ren_len hnb1; omega)) ?_
        rintro _ w8 ⟨L, hL, ⟨hb1, _⟩ | ⟨_, hb2, _⟩ | ⟨_, _, r, ns', M', rfl, hc, h8⟩⟩
        · rw [sup_eq hMx hw hL] at hb1; exact absurd hb1 hnb1
        · rw [sup_eq hMx hw hL] at hb2; exact absurd hb2 hnb2
        have oo := Out.ren hn hw hMx hL hc
        rw [optV_eq]
        have h8r := h8.rot3.by (Imp.un Imp.rfl)
        simp [g16]
        refine st_ref (Lcl.mgr.star (Lcl.vw.star hRest)) h8r ?_
        intro w9 h9
        have pf2 := tst h9 mx my mz
        simp [g0, g1, g7, g10, g11, g12, g13, g14, g15, pf2.x1, pf2.y1, pf2.w1, pf2.zz, pf2.oo, pf2.a0, pf2.a3, pf2.a4]
        refine cl_of (rRename_spec n _ v8 px.f xs w9 (by omega) pf2.vx h9.drop.drop.vw (ren_ok hnb1)) ?_
        rintro _ w10 ⟨u, rfl, tb⟩
        obtain ⟨ho, h10⟩ := tbl_add (At.tb (Lcl.obj.star (Lcl.mgr.star (Lcl.vw.star hRest))) h9 tb)
        simp [g16, tbV]
        refine st_tab (u := ⟨u, ho⟩) (Lcl.mgr.star (Lcl.vw.star hRest)) h10 ?_
        intro w11 h11
        simp
        exact Do4.mk (by simp [g8]) (by simp [g16]) (by simp) oo h11
    · simp [g18, pf.x1, g0, g1, g7, g10, g11, g12, g13, g14, g15, pf.x0, pf.y0, pf.w0, pf.a0, pf.a3, pf.a4]
      refine cl_of (shift_spec n V _ px.f w7 (by omega) pf.vx) ?_
      rintro v8 wa ⟨xs, ⟨hnb1, hnb2⟩, nw⟩
      have ha := (At.nw (Lcl.mgr.star (Lcl.own.star (Lcl.obj.star hRest))) h7 nw).own_vw.rot.by (Imp.un2 Imp.dr)
      have pfa := mst ha mx my mz
      simp [g0, g10, pfa.x0]
      refine cl_of (rename_spec m n lim ns px.ref v8 xs (Lcl.vw.star (Lcl.obj.star hRest)) ha hw hb hMx.ref (fun w' F' h => by obtain ⟨Fa, Fb, ⟨h1, _⟩, _⟩ := h; exact h1) (by have := ren_len hnb1; omega)) ?_
      rintro _ w8 ⟨L, hL, ⟨hb1, _⟩ | ⟨_, hb2, _⟩ | ⟨_, _, r, ns', M', rfl, hc, h8⟩⟩
      · rw [sup_eq hMx hw hL] at hb1; exact absurd hb1 hnb1
      · rw [sup_eq hMx hw hL] at hb2; exact absurd hb2 hnb2
      have oo := Out.ren hn hw hMx hL hc
      rw [optV_eq]
      have h8r := h8.rot3.by (Imp.un Imp.rfl)
      simp [g16]
      refine st_ref (Lcl.mgr.star (Lcl.vw.star hRest)) h8r ?_
      intro w9 h9
      have pf2 := tst h9 mx my mz
      simp [g0, g1, g7, g10, g11, g12, g13, g14, g15, pf2.x1, pf2.y1, pf2.w1, pf2.zz, pf2.oo, pf2.a0, pf2.a3, pf2.a4]
      refine cl_of (rRename_spec n _ v8 px.f xs w9 (by omega) pf2.vx h9.drop.drop.vw (ren_ok hnb1)) ?_
      rintro _ w10 ⟨u, rfl, tb⟩
      obtain ⟨ho, h10⟩ := tbl_add (At.tb (Lcl.obj.star (Lcl.mgr.star (Lcl.vw.star hRest))) h9 tb)
      simp [g16, tbV]
      refine st_tab (u := ⟨u, ho⟩) (Lcl.mgr.star (Lcl.vw.star hRest)) h10 ?_
      intro w11 h11
      simp
      exact Do4.mk (by simp [g8]) (by simp [g16]) (by simp) oo h11
  clear g0 g1 g7 g8 g10 g11 g12 g13 g14 g15 g16 g17 h7 h7v pf
  rintro ρ w8 ⟨g8, ob, g16, ns', hx, hc, hl, h⟩
  rcases h with ⟨g17, p, hMp, h8⟩ | ⟨g17, hfull, x, u, h8⟩
  · have hLZ : Lcl (Star (MgrA m n lim ns') (Star (OwnA lv 53 3 (prE n) l) (Star (VwsA bv (psOf n l ++ [(p.u, tab n p.f)])) B))) := Lcl.mgr.star (Lcl.own.star (Lcl.vws.star hB))
    have h8 := h8.drew (Lcl.obj.star (Lcl.obj.star hLZ))
    have r8 := rd_pr h8.obj
    simp at r8
    simp [g16, g17, r8]
    refine ⟨?_, ?_⟩ <;>
    · refine cl_of (num_nil w8.drew) ?_
      rintro _ w9 ⟨rfl, k9⟩
      have h9 := (h8.kp0 (Lcl.obj.star (Lcl.obj.star hLZ)) k9)
      have r9 := rd_pr h9.obj
      simp [g8, g16, r9]
      have h10 := h9.rot
      unfold zP at h10
      refine h10.st (Lcl.obj.star hLZ) (by simp) (by simp [p.u.2]) fun w11 h11 => ?_
      simp
      refine postL_c2 (hT := rfl) (by simp [g8]) h11.obj rfl rfl ?_
      refine ⟨_, rfl, ns', hx, hc, hl, .inl ⟨p, hMp, by simp [prV], ?_⟩⟩
      have h12 := h11.drop.drop
      simpa [psOf] using h12
  · have hLZ : Lcl (Star (MgrA m n lim ns') (DoL lv n l B)) := Lcl.mgr.star (DoL.lcl hB)
    have h8 := h8.drew (Lcl.obj.star (Lcl.obj.star hLZ))
    have r8 := rd_pr h8.obj
    simp at r8
    simp [g16, g17, r8]
    refine ⟨?_, ?_⟩ <;>
    · refine cl_of (num_err 10 w8.drew) ?_
      rintro _ w9 ⟨rfl, k9⟩
      have h9 := (h8.kp0 (Lcl.obj.star (Lcl.obj.star hLZ)) k9)
      have r9 := rd_pr h9.obj
      simp [g8, g16, r9]
      have h10 := h9.rot
      unfold zP at h10
      refine h10.st (Lcl.obj.star hLZ) (by simp) (by simp [u.2]) fun w11 h11 => ?_
      simp
      refine postL_c2 (hT := rfl) (by simp [g8]) h11.obj rfl rfl ?_
      exact ⟨_, rfl, ns', hx, hc, hl, .inr ⟨x, u, by simp [prV], hfull, h11.drop.drop⟩⟩
end Go.Proofs.YtkojilpjpdpmaaaR
end
section
set_option maxRecDepth 100000
set_option linter.unusedSimpArgs false
set_option linter.unusedVariables false
namespace Go.Proofs.YtkojilpjpdpmaaaR
open Go Go.W Go.Bd Go.Maps
/-- An act in cells. -/
structure Act where
  k : Nat
  a : Nat
  b : Nat
  c : Nat
  v : Nat
structure ActOk (x : Act) : Prop where
  k : x.k ≤ 255
  a : x.a ≤ 255
  b : x.b ≤ 255
  c : x.c ≤ 255
  v : x.v ≤ 255
def actE (x : Act) : List Value := [.int .u8 (x.k : Nat), .int .u8 (x.a : Nat), .int .u8 (x.b : Nat), .int .u8 (x.c : Nat), .int .u8 (x.v : Nat)]
theorem actE_len (x : Act) : (actE x).length = 5 := rfl
theorem psOf_snoc (n : Nat) (l : List Pr) (p : Pr) : psOf n (l ++ [p]) = psOf n l ++ [(p.u, tab n p.f)] := by simp [psOf]
section
variable {w w1 : World} {F : List Nat} {B : Asr} {m n lim : Nat} {ns : Ns} {l : List Pr} {lv : Value} {p : Pr} {KV : Kont (Value × World)}
/-- A pair is appended whose table is known already. -/
theorem ma_append {ty : Nat} {a : Addr} {c : Nat} (hB : Lcl B) (h : At w F (Star (MgrA m n lim ns) (Star (OwnA lv 53 3 (prE n) l) (Star (VwsA bv (psOf n (l ++ [p]))) B))) w1) (hl : l.length ≤ 1000)
    (hx : ∀ j u, (prE n p)[j]? = some u → w1.cell? (a.add j) = some u) (H : ∀ v' w2, At w F (Star (MgrA m n lim ns) (DoL v' n (l ++ [p]) B)) w2 → KV.run (v', w2)) : @efH Try.prog (Builtin.append_ #[47, 47] ty [lv, .slice (some a) 1 c].toArray) w1 KV := by
  refine At.append (xs := [p]) (.star Lcl.mgr (.star .vws hB)) h.rot (prE_len n) (prE_one n) sl_47 rfl (fun j u hj => hx j u (by simpa using hj)) (by omega) (by unfold maxLen; omega) fun v' w2 h2 => H v' w2 ?_
  exact h2.rot
/-- The new table among the others. -/
theorem ma_tbl {u : Value} {T : List Bool} {ps : List (Cell1 × List Bool)} {A1 A2 X : Asr} (h : At w F (Star (OwnA u 4 1 bv T) (Star A1 (Star A2 (Star (VwsA bv ps) X)))) w1) :
    ∃ ho : oneC u = true, At w F (Star A1 (Star A2 (Star (VwsA bv (ps ++ [(⟨u, ho⟩, T)])) X))) w1 :=
  ⟨h.own.o1, h.own_vw.by (Imp.l3.trans (Imp.un2 (VwsA.add h.own.o1)))⟩
end
section
variable {w wa : World} {F : List Nat} {X : Asr} {KW : Kont World}
/-- A variable for a pair. -/
theorem st_pair {n x b : Nat} {u : Cell1} (hX : Lcl X) (h : At w F X wa) (hb : b = wa.heap.size) (H : ∀ w2, At w F (Star (ObjA b (prO n x u.1)) X) w2 → KW.run w2) :
    @stJ (wa.alloc (.cells #[.int .i64 0, .int .i64 0, .slice none 0 0] 53 (0, 0))) ⟨b, 0, none⟩ [.int .i64 (x : Nat), .int .i64 (n : Nat), u.1] KW := by
  have h1 : At w F (Star (ObjA b (.cells #[.int .i64 0, .int .i64 0, .slice none 0 0] 53 (0, 0))) X) (wa.alloc (.cells #[.int .i64 0, .int .i64 0, .slice none 0 0] 53 (0, 0))) := by rw [hb]; exact h.alloc _ hX
  exact h1.st hX (by simp) (by simp [u.2]) fun w2 h2 => H w2 (by simpa [prO] using h2)
/-- A variable for an act. -/
theorem st_act {x : Act} {b : Nat} (hX : Lcl X) (h : At w F X wa) (hb : b = wa.heap.size) (H : ∀ w2, At w F (Star (ObjA b (actO x.k x.a x.b x.c x.v)) X) w2 → KW.run w2) :
    @stJ (wa.alloc (.cells #[.int .u8 0, .int .u8 0, .int .u8 0, .int .u8 0, .int .u8 0] 63 (0, 0))) ⟨b, 0, none⟩ (actE x) KW := by
  have h1 : At w F (Star (ObjA b (.cells #[.int .u8 0, .int .u8 0, .int .u8 0, .int .u8 0, .int .u8 0] 63 (0, 0))) X) (wa.alloc (.cells #[.int .u8 0, .int .u8 0, .int .u8 0, .int .u8 0, .int .u8 0] 63 (0, 0))) := by rw [hb]; exact h.alloc _ hX
  exact h1.st hX (by simp [actE]) (by simp [actE]) fun w2 h2 => H w2 (by simpa [actO, actE] using h2)
theorem rd_act {b : Nat} {x : Act} (h : wa.heap[b]? = some (actO x.k x.a x.b x.c x.v)) : cellsAt wa ⟨b, 0, none⟩ 0 5 = some (actE x) := by
  unfold actO at h
  simp [cellsAt, Addr.add, cell_blk h, actE]
end
/-- The state while functions are made. -/
def MaS (n lim : Nat) (len : Nat) (ns : Ns) (l : List Pr) : Prop := Wf n ns ∧ ns.length ≤ lim ∧ l.length = len ∧ 0 < len ∧ ∀ p ∈ l, Mean n ns p.ref p.f
theorem MaS.snoc {n lim len : Nat} {ns ns' : Ns} {l : List Pr} {p : Pr} (h : MaS n lim len ns l) (hx : Ext n ns ns') (hl : ns'.length ≤ lim) (hp : Mean n ns' p.ref p.f) : MaS n lim (len + 1) ns' (l ++ [p]) := by
  obtain ⟨h1, h2, h3, h4, h5⟩ := h
  refine ⟨hx.wf, hl, by simp [h3], by omega, fun q hq => ?_⟩
  rcases List.mem_append.1 hq with h | h
  · exact (h5 q h).ext h1 hx
  · simp at h; subst h; exact hp
theorem MaS.ext {n lim len : Nat} {ns ns' : Ns} {l : List Pr} (h : MaS n lim len ns l) (hx : Ext n ns ns') (hl : ns'.length ≤ lim) : MaS n lim len ns' l := by
  obtain ⟨h1, h2, h3, h4, h5⟩ := h
  exact ⟨hx.wf, hl, h3, h4, fun q hq => (h5 q hq).ext h1 hx⟩
def MaI (m n lim len cnt : Nat) (B : Asr) (w : World) (F : List Nat) (lv : Value) (w' : World) : Prop :=
  ∃ ns l, MaS n lim len ns l ∧ ns.length ≤ cnt ∧ At w F (Star (MgrA m n lim ns) (DoL lv n l B)) w'
/-- The first two functions. -/
theorem ma_start {w w1 w2 w3 : World} {F : List Nat} {B : Asr} {m n lim : Nat} {u0 u1 : Value} (hB : Lcl B) (h : At w F (Star (MgrA m n lim []) B) w1) (t0 : Tb w1 w2 u0 (tab n fun _ => false)) (t1 : Tb w2 w3 u1 (tab n fun _ => true)) :
    MaI m n lim 2 0 B w F (.slice (some ⟨w3.heap.size, 0, none⟩) 2 2) (w3.alloc (.cells #[.int .i64 0, .int .i64 (n : Nat), u0, .int .i64 1, .int .i64 (n : Nat), u1] 53)) := by
  have hL : Lcl (Star (MgrA m n lim []) B) := Lcl.mgr.star hB
  have h2 := At.tb hL h t0
  have h3 := At.tb (Lcl.own.star hL) h2 t1
  have o0 := h3.drop.own.o1
  have o1 := h3.own.o1
  have h4 := h3.own_vw.rot.own_vw
  have h5 := VwsA.nil (enc := bv) (Lcl.vw.star (Lcl.vw.star hL)) h4
  have h6 := h5.by (Imp.sw.trans (VwsA.add o0))
  have h7 := h6.by (Imp.sw.trans (VwsA.add o1))
  have h8 := h7.lit (xs := [(⟨0, ⟨u0, o0⟩, fun _ => false⟩ : Pr), ⟨1, ⟨u1, o1⟩, fun _ => true⟩]) (enc := prE n) (E := 53) (sz := 3) (cs := #[.int .i64 0, .int .i64 (n : Nat), u0, .int .i64 1, .int .i64 (n : Nat), u1]) (m := 2) (Lcl.vws.star hL) (by simp [prE]) (prE_len n) (by simp [maxLen]) rfl
  refine ⟨[], [(⟨0, ⟨u0, o0⟩, fun _ => false⟩ : Pr), ⟨1, ⟨u1, o1⟩, fun _ => true⟩], ⟨Wf.nil n, by simp, rfl, by omega, ?_⟩, by simp, h8.by Imp.r3⟩
  intro p hp
  simp at hp
  rcases hp with rfl | rfl
  · exact Mean.zero _ _
  · exact Mean.one _ _
set_option maxHeartbeats 4000000 in
theorem made_spec {w w1 : World} {F : List Nat} {B : Asr} (m n : Nat) (av : Value) (acts : List Act) (hB : Lcl B) (hn : n ≤ 5) (hA : At w F (Star (MgrA m n 1048576 []) B) w1) (hR : ∀ w', Kp F w w' → Vw w' av actE acts) (hl : acts.length ≤ 30) (hok : ∀ x ∈ acts, ActOk x) :
    Calls Try.prog 26 [.pointer (some ⟨m, 0, none⟩), .int .i64 (n : Nat), av].toArray w1 fun e w' => ∃ x, e = .returned x ∧ ∃ lv, x = .tuple #[lv, .bool true] ∧ MaI m n 1048576 (2 + n + acts.length) (200 * (n + acts.length)) B w F lv w' := by
  refine enter Try.func26 mixed low26 (Nat.le_of_ble_eq_true rfl) ?_
  simp only [L26]
  simp
  refine cl_of (rConst_spec n false w1 (by omega)) ?_
  rintro _ w2 ⟨u0, rfl, t0⟩
  simp [tbV]
  refine cl_of (rConst_spec n true w2 (by omega)) ?_
  rintro _ w3 ⟨u1, rfl, t1⟩
  have hS := ma_start hB hA t0 t1
  simp [tbV, rowOf, t0.own.o1, t1.own.o1]
  refine range_loop (n := n) (by omega) (fun k ρ w' => ρ 0 = .pointer (some ⟨m, 0, none⟩) ∧ ρ 1 = .int .i64 (n : Nat) ∧ ρ 2 = av ∧ MaI m n 1048576 (2 + k) (200 * k) B w F (ρ 8) w') (by simp) (by simp)
    ⟨by simp, by simp, by simp, by simpa using hS⟩ (by decide) (fun _ _ _ _ h => by simpa using h) (fun _ _ _ _ h => by simpa using h) ?_ ?_
  · rintro k ρ w4 hk hc hlim ⟨g0, g1, g2, ns, l, hS, hcnt, h4⟩
    have hLD : Lcl (Star (MgrA m n 1048576 ns) (DoL (ρ 8) n l B)) := Lcl.mgr.star (DoL.lcl hB)
    simp [g0, g1, hc, hlim]
    refine cl_of (var_spec m n 1048576 ns k (DoL.lcl hB) h4 ⟨by omega, by omega, hS.2.1⟩ hk) ?_
    rintro _ w5 ⟨rfl, h5⟩
    have oo := Out.var (lim := 1048576) hS.2.1 hS.1 hk
    obtain ⟨r, ns1, he⟩ : ∃ r ns1, mkF 1048576 ns k 0 1 = (r, ns1) := ⟨_, _, rfl⟩
    rw [he] at h5 oo ⊢
    obtain ⟨x, rfl⟩ : ∃ x, r = some x := by
      cases r with
      | none => have := oo.full rfl; omega
      | some x => exact ⟨x, rfl⟩
    have hln : ns1.length ≤ ns.length + 200 := oo.len
    have hll := hS.2.2.1
    simp [optV, okV, g1, hc, hlim]
    refine cl_of (rVar_spec n k w5 (by omega) hk) ?_
    rintro _ w6 ⟨u, rfl, tb⟩
    have hLD1 : Lcl (Star (MgrA m n 1048576 ns1) (DoL (ρ 8) n l B)) := Lcl.mgr.star (DoL.lcl hB)
    obtain ⟨ho, h6⟩ := ma_tbl (At.tb hLD1 h5 tb)
    have h7 : At w F (Star (MgrA m n 1048576 ns1) (Star (OwnA (ρ 8) 53 3 (prE n) l) (Star (VwsA bv (psOf n (l ++ [⟨x, ⟨u, ho⟩, fun a => a k⟩]))) B))) w6 := by rw [psOf_snoc]; exact h6
    have h8 := h7.kp0 (Lcl.mgr.star (Lcl.own.star (Lcl.vws.star hB))) ((Kp.refl [] w6).alloc (.cells #[.int .i64 (x : Nat), .int .i64 (n : Nat), u] 53))
    simp [tbV, rowOf, ho]
    refine ma_append (p := ⟨x, ⟨u, ho⟩, fun a => a k⟩) hB h8 (by omega) (fun j u hj => ?_) fun v' w7 h9 => ?_
    · rw [add_none, cell_blk alloc_new]
      simpa [prE] using hj
    simp [g0, g1, g2, hc, hlim]
    exact ⟨ns1, _, hS.snoc oo.ext oo.cap (oo.mean x rfl), by omega, h9⟩
  rintro ρ w4 ⟨g0, g1, g2, hM⟩
  have hav : Vw w4 av actE acts := by
    obtain ⟨ns, l, _, _, h4⟩ := hM
    exact hR _ h4.kp
  simp [g2, hav.len]
  refine range_loop (n := acts.length) (by omega) (fun k ρ w' => ρ 0 = .pointer (some ⟨m, 0, none⟩) ∧ ρ 1 = .int .i64 (n : Nat) ∧ ρ 45 = av ∧ MaI m n 1048576 (2 + n + k) (200 * (n + k)) B w F (ρ 8) w') (by simp) (by simp)
    ⟨by simp [g0], by simp [g1], by simp, by simpa using hM⟩ (by decide) (fun _ _ _ _ h => by simpa using h) (fun _ _ _ _ h => by simpa using h) ?_ ?_
  · rintro k ρ w4 hk hc hlim ⟨g0, g1, g45, ns, l, hS, hcnt, h4⟩
    have hLD : Lcl (Star (MgrA m n 1048576 ns) (DoL (ρ 8) n l B)) := Lcl.mgr.star (DoL.lcl hB)
    have hav : Vw w4 av actE acts := hR _ h4.kp
    obtain ⟨x, hx⟩ : ∃ x, acts[k]? = some x := ⟨_, List.getElem?_eq_getElem hk⟩
    have ox := hok x (List.mem_of_getElem? hx)
    have ec := hav.cells actE_len hx
    simp only [actE] at ec
    simp (disch := omega) [g45, hc, hlim, hav.idx, ec]
    obtain ⟨ab, hab⟩ : ∃ ab, ab = w4.heap.size := ⟨_, rfl⟩
    rw [← hab]
    refine st_act (x := x) hLD h4 hab fun w6 h6 => ?_
    have ca := rd_act h6.obj
    simp only [actE] at ca
    have h7 := h6.by Imp.d3
    simp [g0, g1, hc, hlim, ca]
    refine cl_of (do_spec m n 1048576 ns l (ρ 8) x.k x.a x.b x.c x.v (Lcl.obj.star hB) hn ox.k ox.a ox.b ox.c ox.v (by rintro rfl; have := hS.2.2.1; simp at this; omega) (by rw [hS.2.2.1]; omega) h7 hS.1 ⟨by omega, by omega, hS.2.1⟩ hS.2.2.2.2) ?_
    rintro _ w8 ⟨ns', hxt, hcap, hlen, ⟨p, hMp, rfl, h8⟩ | ⟨_, _, _, hfull, _⟩⟩
    · obtain ⟨pb, hpb⟩ : ∃ pb, pb = w8.heap.size := ⟨_, rfl⟩
      have hL9 : Lcl (Star (MgrA m n 1048576 ns') (Star (OwnA (ρ 8) 53 3 (prE n) l) (Star (VwsA bv (psOf n (l ++ [p]))) (Star (ObjA ab (actO x.k x.a x.b x.c x.v)) B)))) := Lcl.mgr.star (Lcl.own.star (Lcl.vws.star (Lcl.obj.star hB)))
      simp [prV, p.u.2]
      rw [← hpb]
      refine st_pair (x := p.ref) (u := p.u) hL9 h8 hpb fun w10 h10 => ?_
      have r10 := rd_pr h10.obj
      simp [g0, g1, hc, hlim, r10, rowOf, p.u.2]
      have h11 := h10.drop.kp0 hL9 ((Kp.refl [] w10).alloc (.cells #[.int .i64 (p.ref : Nat), .int .i64 (n : Nat), p.u.1] 53))
      refine ma_append (p := p) (Lcl.obj.star hB) h11 (by have := hS.2.2.1; omega) (fun j u hj => ?_) fun v' w12 h12 => ?_
      · rw [add_none, cell_blk alloc_new]
        simpa [prE] using hj
      simp [g0, g1, g45, hc, hlim]
      have h13 : At w F (Star (MgrA m n 1048576 ns') (DoL v' n (l ++ [p]) B)) w12 := h12.by (Imp.un3 Imp.dr)
      exact ⟨ns', _, hS.snoc hxt hcap hMp, by omega, h13⟩
    · omega
  rintro ρ w4 ⟨g0, g1, g45, hM⟩
  simp
  exact hM
end Go.Proofs.YtkojilpjpdpmaaaR
end
