/-
  A part of the proof of this claim's statement (Lib4, Lib5): plain theorems; no conditions beyond those each names.
-/
import Derived.Test.YtcoeknnghfajnaaGreatPk03
import Derived.Below
set_option maxRecDepth 100000
set_option linter.unusedSimpArgs false
set_option linter.unusedVariables false
set_option linter.unusedSectionVars false
section
namespace Go.W
open Go
class Kont (α:Type) where
 run:α→Prop
@[simp] theorem run_mk {α:Type} {f:α→Prop} {x:α}:@Kont.run α ⟨f⟩ x=f x:=propext Iff.rfl
def optH {α:Type} (o:Option α) [k:Kont α]:Prop:=optS o k.run
def gdH (p:Prop) [k:Kont Unit]:Prop:=gdS p (k.run ())
def pickH (a b c:Value) [k:Kont Value]:Prop:=pickS a b c k.run
def nilH (a:Value) [k:Kont Value]:Prop:=nilS a k.run
def fldAH (P:Program) (T i:Nat) (a:Value) [k:Kont Value]:Prop:=fldAS P T i a k.run
def fldH (P:Program) (T i:Nat) (a:Value) [k:Kont Value]:Prop:=fldS P T i a k.run
def idxAH (P:Program) (T:Nat) (a b:Value) [k:Kont Value]:Prop:=idxAS P T a b k.run
def idxH (P:Program) (T:Nat) (a b:Value) [k:Kont Value]:Prop:=idxS P T a b k.run
def extH (a:Value) (i:Nat) [k:Kont Value]:Prop:=extS a i k.run
def unH (o:UnOp) (a:Value) [k:Kont Value]:Prop:=unS o a k.run
def asH (P:Program) (x a:Nat) (ok:Bool) (v:Value) [k:Kont Value]:Prop:=asS P x a ok v k.run
def intH (o:BinOp) (i:IntKind) (a:Int) (j:IntKind) (b:Int) [k:Kont Value]:Prop:=intS o i a j b k.run
def strH (o:BinOp) (a b:ByteArray) [k:Kont Value]:Prop:=strS o a b k.run
def eqH (P:Program) (o:BinOp) (T:Nat) (x y:Operand) (u v:Value) [k:Kont Value]:Prop:=eqS P o T x y u v k.run
def binH (P:Program) (o:BinOp) (T:Nat) (x y:Operand) (u v:Value) [k:Kont Value]:Prop:=binS P o T x y u v k.run
def cnvH (P:Program) (s d:Nat) (v:Value) [k:Kont Value]:Prop:=cnvS P s d v k.run
def lenH (P:Program) (T:Nat) (v:Value) [k:Kont Value]:Prop:=lenS P T v k.run
def mmJ (b:Bool) (i:IntKind) (x:Int) (l:List Value) [k:Kont Value]:Prop:=mmI b i x l k.run
def mmH (b:Bool) (l:List Value) [k:Kont Value]:Prop:=mmS b l k.run
def ldJ (w:World) (a:Addr) (o:Option (Option Nat)) [k:Kont Value]:Prop:=ldK w a k.run o
def ldH (P:Program) (T:Nat) (w:World) (v:Value) [k:Kont Value]:Prop:=ldS P T w v k.run
def stJ (w:World) (a:Addr) (cs:List Value) [k:Kont World]:Prop:=stC w a cs k.run
def stH (P:Program) (T:Nat) (w:World) (v x:Value) [k:Kont World]:Prop:=stS P T w v x k.run
def bldH (P:Program) (T:Nat) (l:List (Nat × Value)) [k:Kont Value]:Prop:=bldS P T l k.run
def rdH (P:Program) (s:Sem Value) (w:World) [k:Kont Value]:Prop:=rdS P s w k.run
def slcH (P:Program) (s:Sem Value) [k:Kont Value]:Prop:=slcS P s k.run
def efH (P:Program) (s:Sem Value) (w:World) [k:Kont (Value × World)]:Prop:=effS P s w fun v w'=>k.run (v,w')
def efuH (P:Program) (s:Sem Unit) (w:World) [k:Kont World]:Prop:=efuS P s w k.run
def boxH (T:Nat) (w:World) (v:Value) [k:Kont (Value × World)]:Prop:=boxS T w v fun v w'=>k.run (v,w')
def newH (P:Program) (T:Nat) (w:World) [k:Kont (Value × World)]:Prop:=newS P T w fun v w'=>k.run (v,w')
def bslH (P:Program) (T n:Nat) (l:List (Nat × Value)) (w:World) [k:Kont (Value × World)]:Prop:=bslS P T n l w fun v w'=>k.run (v,w')
def mksH (P:Program) (T:Nat) (w:World) (l c:Value) [k:Kont (Value × World)]:Prop:=mksS P T w l c fun v w'=>k.run (v,w')
def clJ (P:Program) (w:World) (f:Nat) (l:List Value) [k:Kont (Value × World)]:Prop:=callK P w f l fun v w'=>k.run (v,w')
def clH (P:Program) (w:World) (f:Value) (l:List Value) [k:Kont (Value × World)]:Prop:=callS P w f l fun v w'=>k.run (v,w')
def guH (v:Value) (b:Bool) [k:Kont Bool]:Prop:=gd v b (k.run true) (k.run false)
def cdH (v:Value) [k:Kont Bool]:Prop:=condS v (k.run true) (k.run false)
section
variable {P:Program} {K:Kont Value} {KU:Kont Unit} {KB:Kont Bool} {KV:Kont (Value × World)} {KW:Kont World} {w:World}
@[simp] theorem optS_some {α:Type} {x:α} {k:Kont α}:@optH α (some x) k=k.run x:=propext Iff.rfl
@[simp] theorem gdS_true:@gdH True KU=KU.run ():=by simp [gdH,gdS]
@[simp] theorem pickS_b {t:Bool} {a b:Value}:@pickH (.bool t) a b K=K.run (if t then a else b):=propext Iff.rfl
@[simp] theorem nilS_p {a:Addr}:@nilH (.pointer (some a)) K=K.run (.pointer (some a)):=propext Iff.rfl
@[simp] theorem nilS_f {f:Nat} {x y:Array Value}:@nilH (.func (.func f) x y) K=K.run (.func (.func f) x y):=propext Iff.rfl
@[simp] theorem nilS_i {t:Nat} {v:Value}:@nilH (.iface t v) K=K.run (.iface t v):=propext Iff.rfl
@[simp] theorem fldAS_p {T i:Nat} {a:Addr}:@fldAH P T i (.pointer (some a)) K=@optH _ (fOff P T i) ⟨fun o=>K.run (.pointer (some (a.add o)))⟩:=propext Iff.rfl
@[simp] theorem fldS_a {T i:Nat} {cs:Array Value}:@fldH P T i (.agg cs) K=@optH _ (fldInfo P T i) ⟨fun q=>@optH _ (partV q.1 cs q.2) K⟩:=propext Iff.rfl
@[simp] theorem partV_one {cs:Array Value} {o:Nat}:partV (some none) cs o=cs[o]? := rfl
@[simp] theorem partV_agg {cs:Array Value} {o n:Nat}:partV (some (some n)) cs o=some (.agg (cs.extract o (o+n))):=rfl
@[simp] theorem idxAS_s {T:Nat} {a:Addr} {len cap:Nat} {k:IntKind} {i:Int}:@idxAH P T (.slice (some a) len cap) (.int k i) K=@optH _ (slInfo P T) ⟨fun q=>@gdH (0≤i∧i < len) ⟨fun _=>K.run (.pointer (some (a.add (i.toNat * q.2.1))))⟩⟩:=propext Iff.rfl
@[simp] theorem idxAS_p {T:Nat} {a:Addr} {k:IntKind} {i:Int}:@idxAH P T (.pointer (some a)) (.int k i) K=@optH _ (arrInfo P T) ⟨fun q=>@gdH (0≤i∧i < q.1) ⟨fun _=>K.run (.pointer (some (a.add (i.toNat * q.2.1))))⟩⟩:=propext Iff.rfl
@[simp] theorem idxS_a {T:Nat} {cs:Array Value} {k:IntKind} {i:Int}:@idxH P T (.agg cs) (.int k i) K=@optH _ (arrInfo P T) ⟨fun q=>@gdH (0≤i∧i < q.1) ⟨fun _=>@optH _ (arrPart q.2.1 q.2.2 cs i.toNat) K⟩⟩:=propext Iff.rfl
@[simp] theorem idxS_s {T:Nat} {s:ByteArray} {k:IntKind} {i:Int}:@idxH P T (.string s) (.int k i) K=@gdH (isStr P T=true) ⟨fun _=>@gdH (0≤i) ⟨fun _=>@optH _ (s[i.toNat]?) ⟨fun b=>K.run (.int .u8 b.toNat)⟩⟩⟩:=propext Iff.rfl
@[simp] theorem arrPart_f {sz i:Nat} {cs:Array Value}:arrPart sz false cs i=cs[i * sz]? := rfl
@[simp] theorem arrPart_t {sz i:Nat} {cs:Array Value}:arrPart sz true cs i=some (.agg (cs.extract (i * sz) (i * sz+sz))):=rfl
@[simp] theorem extS_t {vs:Array Value} {i:Nat}:@extH (.tuple vs) i K=@optH _ (vs[i]?) K:=propext Iff.rfl
@[simp] theorem unS_not {b:Bool}:@unH .not (.bool b) K=K.run (.bool !b):=propext Iff.rfl
@[simp] theorem unS_neg {k:IntKind} {n:Int}:@unH .neg (.int k n) K=K.run (.int k (k.wrap (0 - n))):=propext Iff.rfl
@[simp] theorem asS_i {x t a:Nat} {ok:Bool} {v:Value} (h:t=a):@asH P x a ok (.iface t v) K=@gdH (isIface P a=some false) ⟨fun _=>K.run (if ok then .tuple #[v,.bool true] else v)⟩:=by
 show asS P x a ok (.iface t v) K.run=_
 simp [asS,h,gdH]
@[simp] theorem asS_no {x t a:Nat} {v:Value} (h:¬t=a):@asH P x a true (.iface t v) K=@gdH (isIface P a=some false) ⟨fun _=>@optH _ (zeroV P a) ⟨fun z=>K.run (.tuple #[z,.bool false])⟩⟩:=by
 show asS P x a true (.iface t v) K.run=_
 simp [asS,h,gdH,optH,gdS]
@[simp] theorem asS_n {x a:Nat}:@asH P x a true .nilIface K=@gdH (isIface P a=some false) ⟨fun _=>@optH _ (zeroV P a) ⟨fun z=>K.run (.tuple #[z,.bool false])⟩⟩:=by
 show asS P x a true .nilIface K.run=_
 simp [asS,gdH,optH,gdS]
@[simp] theorem binS_i {o:BinOp} {T:Nat} {x y:Operand} {k k':IntKind} {a b:Int}:@binH P o T x y (.int k a) (.int k' b) K=@intH o k a k' b K:=propext Iff.rfl
@[simp] theorem binS_s {o:BinOp} {T:Nat} {x y:Operand} {a b:ByteArray}:@binH P o T x y (.string a) (.string b) K=@strH o a b K:=propext Iff.rfl
@[simp] theorem binS_b {o:BinOp} {T:Nat} {x y:Operand} {a b:Bool}:@binH P o T x y (.bool a) (.bool b) K=@eqH P o T x y (.bool a) (.bool b) K:=propext Iff.rfl
@[simp] theorem binS_nn {o:BinOp} {T:Nat} {x y:Operand}:@binH P o T x y .nilIface .nilIface K=@eqH P o T x y .nilIface .nilIface K:=propext Iff.rfl
@[simp] theorem binS_in {o:BinOp} {T:Nat} {x y:Operand} {t:Nat} {v:Value}:@binH P o T x y (.iface t v) .nilIface K=@eqH P o T x y (.iface t v) .nilIface K:=propext Iff.rfl
@[simp] theorem binS_ni {o:BinOp} {T:Nat} {x y:Operand} {t:Nat} {v:Value}:@binH P o T x y .nilIface (.iface t v) K=@eqH P o T x y .nilIface (.iface t v) K:=propext Iff.rfl
@[simp] theorem binS_ii {o:BinOp} {T:Nat} {x y:Operand} {t t':Nat} {v v':Value}:@binH P o T x y (.iface t v) (.iface t' v') K=@eqH P o T x y (.iface t v) (.iface t' v') K:=propext Iff.rfl
@[simp] theorem binS_p {o:BinOp} {T:Nat} {x y:Operand} {a b:Option Addr}:@binH P o T x y (.pointer a) (.pointer b) K=@eqH P o T x y (.pointer a) (.pointer b) K:=propext Iff.rfl
@[simp] theorem binS_sl {o:BinOp} {T:Nat} {x y:Operand} {a b:Option Addr} {n m c d:Nat}:@binH P o T x y (.slice a n c) (.slice b m d) K=@eqH P o T x y (.slice a n c) (.slice b m d) K:=propext Iff.rfl
@[simp] theorem binS_m {o:BinOp} {T:Nat} {x y:Operand} {a b:Option Nat}:@binH P o T x y (.map a) (.map b) K=@eqH P o T x y (.map a) (.map b) K:=propext Iff.rfl
@[simp] theorem eqS_eql {T:Nat} {x y:Operand} {u v:Value}:@eqH P .eql T x y u v K=@optH _ (eqvV P T x y u v) ⟨fun r=>K.run (.bool r)⟩:=propext Iff.rfl
@[simp] theorem eqS_neq {T:Nat} {x y:Operand} {u v:Value}:@eqH P .neq T x y u v K=@optH _ (eqvV P T x y u v) ⟨fun r=>K.run (.bool !r)⟩:=propext Iff.rfl
@[simp] theorem eqvV_b {T:Nat} {x y:Operand} {a b:Bool}:eqvV P T x y (.bool a) (.bool b)=if isBoolT P T=true then some (a == b) else none:=rfl
@[simp] theorem eqvV_nn {T:Nat} {x y:Operand}:eqvV P T x y .nilIface .nilIface=if isIface P T=some true∧(isC x || isC y) then some true else none:=rfl
@[simp] theorem eqvV_in {T t:Nat} {v:Value} {x y:Operand}:eqvV P T x y (.iface t v) .nilIface=if isIface P T=some true then some false else none:=rfl
@[simp] theorem eqvV_ni {T t:Nat} {v:Value} {x y:Operand}:eqvV P T x y .nilIface (.iface t v)=if isIface P T=some true then some false else none:=rfl
@[simp] theorem eqvV_ii {T t t':Nat} {k k':IntKind} {a b:Int} {x y:Operand}:eqvV P T x y (.iface t (.int k a)) (.iface t' (.int k' b))=if isIface P T=some true∧t=t'∧k=k'∧intC P t=true then some (a == b) else none:=rfl
@[simp] theorem eqvV_p {T:Nat} {a:Option Addr} {x y:Operand}:eqvV P T x y (.pointer a) (.pointer none)=if isPtrT P T=true then some a.isNone else none:=by cases a <;> rfl
@[simp] theorem eqvV_s {T n m c d:Nat} {a:Option Addr} {x y:Operand}:eqvV P T x y (.slice a n c) (.slice none m d)=if isSl P T=true then some a.isNone else none:=by cases a <;> rfl
@[simp] theorem eqvV_m {T:Nat} {a:Option Nat} {x y:Operand}:eqvV P T x y (.map a) (.map none)=if isMapT P T=true then some a.isNone else none:=by cases a <;> rfl
@[simp] theorem isC_const {v:Value}:isC (.const v)=true:=rfl
@[simp] theorem isC_tmp {t:Nat}:isC (.tmp t)=false:=rfl
@[simp] theorem intS_add {k:IntKind} {a b:Int}:@intH .add k a k b K=K.run (.int k (k.wrap (a+b))):=by simp [intH,intS,gdS]
@[simp] theorem intS_sub {k:IntKind} {a b:Int}:@intH .sub k a k b K=K.run (.int k (k.wrap (a - b))):=by simp [intH,intS,gdS]
@[simp] theorem intS_mul {k:IntKind} {a b:Int}:@intH .mul k a k b K=K.run (.int k (k.wrap (a * b))):=by simp [intH,intS,gdS]
@[simp] theorem intS_quo {k:IntKind} {a b:Int}:@intH .quo k a k b K=@gdH (b≠0) ⟨fun _=>K.run (.int k (k.wrap (a.tdiv b)))⟩:=by simp [intH,intS,gdS,gdH]
@[simp] theorem intS_rem {k:IntKind} {a b:Int}:@intH .rem k a k b K=@gdH (b≠0) ⟨fun _=>K.run (.int k (a.tmod b))⟩:=by simp [intH,intS,gdS,gdH]
@[simp] theorem intS_eql {k:IntKind} {a b:Int}:@intH .eql k a k b K=K.run (.bool (a == b)):=by simp [intH,intS,gdS]
@[simp] theorem intS_neq {k:IntKind} {a b:Int}:@intH .neq k a k b K=K.run (.bool (a != b)):=by simp [intH,intS,gdS]
@[simp] theorem intS_lss {k:IntKind} {a b:Int}:@intH .lss k a k b K=K.run (.bool (decide (a < b))):=by simp [intH,intS,gdS]
@[simp] theorem intS_leq {k:IntKind} {a b:Int}:@intH .leq k a k b K=K.run (.bool (decide (a≤b))):=by simp [intH,intS,gdS]
@[simp] theorem intS_gtr {k:IntKind} {a b:Int}:@intH .gtr k a k b K=K.run (.bool (decide (b < a))):=by simp [intH,intS,gdS]
@[simp] theorem intS_geq {k:IntKind} {a b:Int}:@intH .geq k a k b K=K.run (.bool (decide (b≤a))):=by simp [intH,intS,gdS]
@[simp] theorem intS_shl {k k':IntKind} {a b:Int}:@intH .shl k a k' b K=@gdH (0≤b) ⟨fun _=>K.run (.int k (k.wrap (a * 2 ^ (min b.toNat k.bits))))⟩:=propext Iff.rfl
@[simp] theorem intS_shr {k k':IntKind} {a b:Int}:@intH .shr k a k' b K=@gdH (0≤b) ⟨fun _=>K.run (.int k (a.fdiv (2 ^ (min b.toNat k.bits))))⟩:=propext Iff.rfl
@[simp] theorem intS_xor {k:IntKind} {a b:Int}:@intH .xor k a k b K=K.run (.int k (k.wrap (BitVec.ofInt k.bits a ^^^ BitVec.ofInt k.bits b).toNat)):=by simp [intH,intS,gdS]
@[simp] theorem intS_and {k:IntKind} {a b:Int}:@intH .and k a k b K=K.run (.int k (k.wrap (BitVec.ofInt k.bits a &&& BitVec.ofInt k.bits b).toNat)):=by simp [intH,intS,gdS]
@[simp] theorem strS_eql {a b:ByteArray}:@strH .eql a b K=K.run (.bool (a.toList == b.toList)):=propext Iff.rfl
@[simp] theorem strS_neq {a b:ByteArray}:@strH .neq a b K=K.run (.bool !(a.toList == b.toList)):=propext Iff.rfl
@[simp] theorem strS_lss {a b:ByteArray}:@strH .lss a b K=K.run (.bool (Op.bytesLess a.toList b.toList)):=propext Iff.rfl
@[simp] theorem strS_leq {a b:ByteArray}:@strH .leq a b K=K.run (.bool (Op.bytesLess a.toList b.toList || a.toList == b.toList)):=propext Iff.rfl
@[simp] theorem strS_gtr {a b:ByteArray}:@strH .gtr a b K=K.run (.bool !(Op.bytesLess a.toList b.toList || a.toList == b.toList)):=propext Iff.rfl
@[simp] theorem strS_geq {a b:ByteArray}:@strH .geq a b K=K.run (.bool !(Op.bytesLess a.toList b.toList)):=propext Iff.rfl
@[simp] theorem strS_add {a b:ByteArray}:@strH .add a b K=@gdH (((a.size+b.size:Nat):Int)≤IntKind.i64.max) ⟨fun _=>K.run (.string (a ++ b))⟩:=propext Iff.rfl
@[simp] theorem cnvS_i {s d:Nat} {k:IntKind} {n:Int}:@cnvH P s d (.int k n) K=@optH _ (intKind P d) ⟨fun k=>@gdH ((P.underlying s).isSome=true) ⟨fun _=>K.run (.int k (k.wrap n))⟩⟩:=propext Iff.rfl
@[simp] theorem cnvS_s {s d:Nat} {b:ByteArray}:@cnvH P s d (.string b) K=@gdH (isStr P s=true) ⟨fun _=>@gdH (isStr P d=true) ⟨fun _=>K.run (.string b)⟩⟩:=propext Iff.rfl
@[simp] theorem lenS_s {T:Nat} {s:ByteArray}:@lenH P T (.string s) K=@gdH (isStr P T=true) ⟨fun _=>K.run (.int .i64 s.size)⟩:=propext Iff.rfl
@[simp] theorem lenS_l {T:Nat} {a:Option Addr} {n c:Nat}:@lenH P T (.slice a n c) K=@gdH (isSl P T=true) ⟨fun _=>K.run (.int .i64 n)⟩:=propext Iff.rfl
@[simp] theorem mmS_i {b:Bool} {k:IntKind} {x:Int} {l:List Value}:@mmH b (.int k x :: l) K=@mmJ b k x l K:=propext Iff.rfl
@[simp] theorem mmI_nil {b:Bool} {k:IntKind} {x:Int}:@mmJ b k x [] K=K.run (.int k x):=propext Iff.rfl
@[simp] theorem mmI_min {k k':IntKind} {x y:Int} {l:List Value}:@mmJ false k x (.int k' y :: l) K=@mmJ false k (min x y) l K:=by
 have:(if y < x then y else x)=min x y:=by by_cases h:y < x <;> simp [h] <;> omega
 simp [mmJ,mmI,this]
@[simp] theorem mmI_max {k k':IntKind} {x y:Int} {l:List Value}:@mmJ true k x (.int k' y :: l) K=@mmJ true k (max x y) l K:=by
 have:(if y > x then y else x)=max x y:=by by_cases h:y > x <;> simp [h] <;> omega
 simp [mmJ,mmI,this]
@[simp] theorem ldS_p {T:Nat} {a:Addr}:@ldH P T w (.pointer (some a)) K=@ldJ w a (tyAgg P T) K:=propext Iff.rfl
@[simp] theorem ldK_one {a:Addr}:@ldJ w a (some none) K=@optH _ (w.cell? a) K:=propext Iff.rfl
@[simp] theorem ldK_agg {a:Addr} {n:Nat}:@ldJ w a (some (some n)) K=@optH _ (cellsAt w a 0 n) ⟨fun cs=>K.run (.agg cs.toArray)⟩:=propext Iff.rfl
@[simp] theorem stS_p {T:Nat} {a:Addr} {x:Value}:@stH P T w (.pointer (some a)) x KW=@gdH (tySize P T=some x.cells.size) ⟨fun _=>@stJ w a x.cells.toList KW⟩:=propext Iff.rfl
theorem stC_eq {a:Addr} {cs:List Value}:@stJ w a cs KW=@optH _ (rowAt w a) ⟨fun q=>@gdH (a.spot=none∧a.off+cs.length≤q.1.size∧cs.all oneC=true) ⟨fun _=>KW.run (w.setB a.block (.cells (wrAt q.1 a.off cs) q.2 (0,0)))⟩⟩:=rfl
@[simp] theorem bldS_eq {T:Nat} {l:List (Nat × Value)}:@bldH P T l K=@optH _ (bldInfo P T) ⟨fun q=>@optH _ (bldV l q) ⟨fun cs=>K.run (.agg cs)⟩⟩:=propext Iff.rfl
@[simp] theorem bldV_st {l:List (Nat × Value)} {z:List Value} {pl:List (Nat × Nat)}:bldV l (z,pl,0)=fillP pl z.toArray l:=rfl
@[simp] theorem bldV_ar {l:List (Nat × Value)} {z:List Value} {pl:List (Nat × Nat)} {n:Nat}:bldV l (z,pl,n+1)=fillRow (n+1) z.toArray l:=rfl
@[simp] theorem boxS_eq {T:Nat} {v:Value}:@boxH T w v KV=KV.run (.pointer (some ⟨w.heap.size,0,none⟩),w.alloc (.cells v.cells T)):=propext Iff.rfl
@[simp] theorem newS_eq {T:Nat}:@newH P T w KV=@optH _ (zeroV P T) ⟨fun z=>@boxH T w z KV⟩:=propext Iff.rfl
@[simp] theorem bslS_eq {T n:Nat} {l:List (Nat × Value)}:@bslH P T n l w KV=@optH _ (slInfo P T) ⟨fun q=>@gdH (n * q.2.1≤16777216) ⟨fun _=>@optH _ (fillRow q.2.1 (rowOf q.2.2.2 n).toArray l) ⟨fun cs=>KV.run (.slice (some ⟨w.heap.size,0,none⟩) n n,w.alloc (.cells cs q.1))⟩⟩⟩:=propext Iff.rfl
@[simp] theorem mksS_eq {T:Nat} {k j:IntKind} {l c:Int}:@mksH P T w (.int k l) (.int j c) KV=@optH _ (slInfo P T) ⟨fun q=>@gdH (0≤l∧l≤c∧c≤9223372036854775807∧q.2.2.1 * c≤140737488355328)
   ⟨fun _=>KV.run (.slice (some ⟨w.heap.size,0,none⟩) l.toNat c.toNat,w.alloc (.cells (rowOf q.2.2.2 c.toNat).toArray q.1))⟩⟩:=rfl
def clX (P:Program) (w:World) (f:Nat) (l:List Value) [k:Kont (Value × World)]:Prop:=∃v w',(callFunc f l.toArray).run P w=.ok (.value v) w'∧k.run (v,w')
@[simp] theorem callS_f {f:Nat} {x y:Array Value} {l:List Value}:@clH P w (.func (.func f) x y) l KV=if enterable P f=true then @clJ P w f (x.toList ++ l ++ y.toList) KV else @clX P w f (x.toList ++ l ++ y.toList) KV:=by
 by_cases he:enterable P f=true
 ·rw [if_pos he]
  refine propext ⟨fun h=>?_,fun h=>.inl ⟨he,h⟩⟩
  rcases h with h | ⟨v,w',hr,_⟩
  ·exact h.2
  ·exfalso
   unfold enterable at he
   split at he
   ·rename_i fn hf
    simp only [Bool.and_eq_true,bne_iff_ne,ne_eq] at he
    have hb:fn.body.isNone=false:=by
     cases hh:fn.body with
     | none=>rw [hh] at he; simp at he
     | some _=>rfl
    simp [callFunc,run_program,hf,he.2] at hr
    rw [if_neg (by intro h; rw [h] at hb; cases hb)] at hr
    simp at hr
   ·cases he
 ·rw [if_neg he]
  refine propext ⟨fun h=>?_,fun h=>.inr h⟩
  rcases h with h | h
  ·exact absurd h.1 he
  ·exact h
@[simp] theorem gd_tt {b:Bool}:@guH (.bool b) b KB=KB.run true:=by simp [guH,gd]
@[simp] theorem gd_tf:@guH (.bool true) false KB=KB.run false:=by simp [guH,gd]
@[simp] theorem gd_ft:@guH (.bool false) true KB=KB.run false:=by simp [guH,gd]
@[simp] theorem gd_un {b:Bool} {vs:Array Value}:@guH (.tuple vs) b KB=KB.run false:=by simp [guH,gd]
@[simp] theorem condS_t:@cdH (.bool true) KB=KB.run true:=by simp [cdH,condS]
@[simp] theorem condS_f:@cdH (.bool false) KB=KB.run false:=by simp [cdH,condS]
theorem gd_mk {p:Prop} (h:p) (hk:KU.run ()):@gdH p KU:=⟨h,hk⟩
theorem ef_mk {s:Sem Value} {v:Value} {w':World} (h:s.run P w=.ok v w') (hk:KV.run (v,w')):@efH P s w KV:=⟨v,w',h,hk⟩
theorem efu_mk {s:Sem Unit} {w':World} (h:s.run P w=.ok () w') (hk:KW.run w'):@efuH P s w KW:=⟨w',h,hk⟩
theorem rd_mk {s:Sem Value} {v:Value} (h:∀w',ExtH w w'→s.run P w'=.ok v w') (hk:K.run v):@rdH P s w K:=⟨v,h,hk⟩
theorem cl_of {f:Nat} {args:List Value} {R:Value→World→Prop}
  (h:Calls P f args.toArray w fun e w'=>∃v,e=.returned v∧R v w') (hk:∀v w',R v w'→KV.run (v,w')):@clJ P w f args KV :=
 h.mono fun _ _ ⟨v,he,hr⟩=>⟨v,he,hk _ _ hr⟩
end
attribute [simp] List.getElem?_cons_zero List.getElem?_cons_succ
@[simp] theorem cells_int {k:IntKind} {n:Int}:(Value.int k n).cells=#[.int k n]:=rfl
@[simp] theorem cells_bool {b:Bool}:(Value.bool b).cells=#[.bool b]:=rfl
@[simp] theorem cells_str {s:ByteArray}:(Value.string s).cells=#[.string s]:=rfl
@[simp] theorem cells_ptr {a:Option Addr}:(Value.pointer a).cells=#[.pointer a]:=rfl
@[simp] theorem cells_sl {a:Option Addr} {n c:Nat}:(Value.slice a n c).cells=#[.slice a n c]:=rfl
@[simp] theorem cells_map {r:Option Nat}:(Value.map r).cells=#[.map r]:=rfl
@[simp] theorem cells_if {t:Nat} {v:Value}:(Value.iface t v).cells=#[.iface t v]:=rfl
@[simp] theorem cells_nif:(Value.nilIface).cells=#[.nilIface]:=rfl
@[simp] theorem cells_fn {f:Fn} {x y:Array Value}:(Value.func f x y).cells=#[.func f x y]:=rfl
@[simp] theorem cells_nfn:(Value.nilFunc).cells=#[.nilFunc]:=rfl
@[simp] theorem cells_agg {cs:Array Value}:(Value.agg cs).cells=cs:=rfl
@[simp] theorem oneC_int {k:IntKind} {n:Int}:oneC (.int k n)=true:=rfl
@[simp] theorem oneC_bool {b:Bool}:oneC (.bool b)=true:=rfl
@[simp] theorem oneC_str {s:ByteArray}:oneC (.string s)=true:=rfl
@[simp] theorem oneC_ptr {a:Option Addr}:oneC (.pointer a)=true:=rfl
@[simp] theorem oneC_sl {a:Option Addr} {n c:Nat}:oneC (.slice a n c)=true:=rfl
@[simp] theorem oneC_map {r:Option Nat}:oneC (.map r)=true:=rfl
@[simp] theorem oneC_if {t:Nat} {v:Value}:oneC (.iface t v)=true:=rfl
@[simp] theorem oneC_nif:oneC .nilIface=true:=rfl
@[simp] theorem oneC_fn {f:Fn} {x y:Array Value}:oneC (.func f x y)=true:=rfl
@[simp] theorem wrAt_nil {c:Array Value} {o:Nat}:wrAt c o []=c:=rfl
@[simp] theorem wrAt_cons {c:Array Value} {o:Nat} {v:Value} {vs:List Value}:wrAt c o (v :: vs)=wrAt (c.setIfInBounds o v) (o+1) vs:=rfl
@[simp] theorem add_none {b o i:Nat}:(⟨b,o,none⟩:Addr).add i=⟨b,o+i,none⟩:=addr_add b o i
@[simp] theorem rowO_cells {c:Array Value} {E:Nat}:rowO (some (.cells c E (0,0)))=some (c,E):=rfl
theorem cell_blk {w:World} {b:Nat} {c:Array Value} {E:Nat} {fr:Nat × Nat} (h:w.heap[b]? = some (.cells c E fr)) (o:Nat):w.cell? ⟨b,o,none⟩=c[o]? := by simp [World.cell?,h]
theorem row_blk {w:World} {b:Nat} {c:Array Value} {E:Nat} (h:w.heap[b]? = some (.cells c E (0,0))) (o:Nat) (s:Option Nat):rowAt w ⟨b,o,s⟩=some (c,E):=by simp [rowAt,h]
@[simp] theorem fillP_nil {pl:List (Nat × Nat)} {cs:Array Value}:fillP pl cs []=some cs:=rfl
@[simp] theorem fillRow_nil {sz:Nat} {cs:Array Value}:fillRow sz cs []=some cs:=rfl
@[simp] theorem fillP_cons {pl:List (Nat × Nat)} {cs:Array Value} {i:Nat} {v:Value} {r:List (Nat × Value)} :
  fillP pl cs ((i,v) :: r)=(pl[i]?).bind fun q=>if v.cells.size=q.2∧q.1+q.2≤cs.size then fillP pl (wrAt cs q.1 v.cells.toList) r else none:=by
 rw [fillP]
 cases pl[i]? with
 | none=>rfl
 | some q =>
  simp only [Option.bind_some]
  by_cases h1:v.cells.size=q.2 <;> by_cases h2:q.1+q.2≤cs.size <;> simp [h1,h2] <;> omega
@[simp] theorem fillRow_cons {sz:Nat} {cs:Array Value} {i:Nat} {v:Value} {r:List (Nat × Value)} :
  fillRow sz cs ((i,v) :: r)=if v.cells.size=sz∧i * sz+sz≤cs.size then fillRow sz (wrAt cs (i * sz) v.cells.toList) r else none:=by
 rw [fillRow]
 by_cases h1:v.cells.size=sz <;> by_cases h2:i * sz+sz≤cs.size <;> simp [h1,h2] <;> omega
@[simp] theorem rowOf_one {z:List Value}:rowOf z 1=z:=by simp [rowOf]
@[simp] theorem rowOf_zero {z:List Value}:rowOf z 0=[]:=rfl
section
variable {w:World}
@[simp] theorem drawn_t:drawnW true w=w.drew:=rfl
@[simp] theorem drawn_f:drawnW false w=w:=rfl
@[simp] theorem drew_heap:w.drew.heap=w.heap:=rfl
@[simp] theorem alloc_new {o:Obj}:(w.alloc o).heap[w.heap.size]? = some o:=by
 show (w.heap.push o)[w.heap.size]? = some o
 simp
theorem alloc_old {o:Obj} {b:Nat} (h:b < w.heap.size):(w.alloc o).heap[b]? = w.heap[b]? := by
 show (w.heap.push o)[b]? = w.heap[b]?
 rw [Array.getElem?_push,if_neg (Nat.ne_of_lt h)]
theorem lt_of_blk {b:Nat} {o:Obj} (h:w.heap[b]? = some o):b < w.heap.size:=(Array.getElem?_eq_some_iff.1 h).1
@[simp] theorem setB_size {b:Nat} {o:Obj}:(w.setB b o).heap.size=w.heap.size:=by simp [World.setB]
theorem setB_ne {b b':Nat} {o:Obj} (h:b'≠b):(w.setB b o).heap[b']? = w.heap[b']? := by
 unfold World.setB
 simp only [Array.getElem?_setIfInBounds]
 rw [if_neg (Ne.symm h)]
theorem setB_new {b:Nat} {o:Obj} (h:b < w.heap.size):(w.setB b o).heap[b]? = some o:=by
 simp [World.setB,h]
@[simp] theorem drew_os:w.drew.os=w.os:=rfl
@[simp] theorem drew_out:w.drew.output=w.output:=rfl
end
@[simp] theorem set_at {ρ:Env} {d t:Nat} {v:Value}:(ρ.set d v) t=if t=d then v else ρ t:=rfl
@[simp] theorem put_some {ρ:Env} {d:Nat} {v:Value}:ρ.put (some d) v=ρ.set d v:=rfl
@[simp] theorem put_none {ρ:Env} {v:Value}:ρ.put none v=ρ:=rfl
@[simp] theorem ev_tmp {ρ:Env} {t:Nat}:ρ.ev (.tmp t)=ρ t:=rfl
@[simp] theorem ev_const {ρ:Env} {v:Value}:ρ.ev (.const v)=v:=rfl
@[simp] theorem ev_func {ρ:Env} {f:Nat}:ρ.ev (.func f)=.func (.func f) #[] #[]:=rfl
@[simp] theorem ev_global {ρ:Env} {g:Nat}:ρ.ev (.global g)=.pointer (some ⟨g,0,none⟩):=rfl
@[simp] theorem merge_nil {ρ ρ':Env}:ρ.merge ρ' []=ρ:=rfl
@[simp] theorem merge_cons {ρ ρ':Env} {t:Nat} {l:List Nat}:ρ.merge ρ' (t :: l)=(ρ.merge ρ' l).set t (ρ' t):=rfl
@[simp] theorem args_at {l:List Value} {t:Nat}:Env.args l t=l.getD t undef:=rfl
@[simp] theorem thenK_nrm {K:Env→World→Prop} {Q:Ex→Env→World→Prop}:thenK K Q .nrm=K:=rfl
@[simp] theorem thenK_exit {K:Env→World→Prop} {Q:Ex→Env→World→Prop} {i:Nat}:thenK K Q (.exit i)=Q (.exit i):=rfl
@[simp] theorem thenK_ret {K:Env→World→Prop} {Q:Ex→Env→World→Prop}:thenK K Q .ret=Q .ret:=rfl
@[simp] theorem blockK_nrm {i:Nat} {Q:Ex→Env→World→Prop}:blockK i Q .nrm=Q .nrm:=rfl
@[simp] theorem blockK_ret {i:Nat} {Q:Ex→Env→World→Prop}:blockK i Q .ret=Q .ret:=rfl
@[simp] theorem blockK_exit {i j:Nat} {Q:Ex→Env→World→Prop}:blockK i Q (.exit j)=if j=i then Q .nrm else Q (.exit j):=rfl
section
variable {P:Program} {ρ:Env} {w:World} {K:Env→World→Prop} {Q:Ex→Env→World→Prop} {KW:Value→World→Prop} {ty:Nat}
@[simp ↓] theorem wpT_nil:wpT P [] ρ w K=K ρ w:=propext Iff.rfl
@[simp ↓] theorem wpT_cons {c:Nat} {d:Option Nat} {op:Op} {l:List LO}:wpT P (⟨c,d,op,ty,none⟩ :: l) ρ w K=opS P c op ty ρ w fun v w'=>wpT P l (ρ.put d v) w' K:=propext Iff.rfl
@[simp ↓] theorem wpT_gd {c g:Nat} {b:Bool} {d:Option Nat} {op:Op} {l:List LO}:wpT P (⟨c,d,op,ty,some (g,b)⟩ :: l) ρ w K =
  @guH (ρ g) b ⟨fun t=>if t=true then opS P c op ty ρ w fun v w'=>wpT P l (ρ.put d v) w' K else wpT P l (ρ.put d undef) w K⟩:=by simp [guH,wpT]
@[simp ↓] theorem wpAlts_one {l:List LO}:wpAlts P ρ w K [l]=wpT P l ρ w K:=propext Iff.rfl
@[simp ↓] theorem wpL_skip:wpL P .skip Q ρ w=Q .nrm ρ w:=propext Iff.rfl
@[simp ↓] theorem wpL_exit {i:Nat}:wpL P (.exit i) Q ρ w=Q (.exit i) ρ w:=propext Iff.rfl
@[simp ↓] theorem wpL_ret:wpL P .ret Q ρ w=Q .ret ρ w:=propext Iff.rfl
@[simp ↓] theorem wpL_region {dr:Bool} {alts:List (List LO)} {outs:List Nat}:wpL P (.region dr alts outs) Q ρ w=wpAlts P ρ (drawnW dr w) (fun ρ' w'=>Q .nrm (ρ.merge ρ' outs) w') alts:=propext Iff.rfl
@[simp ↓] theorem wpL_seq {a b:LCode}:wpL P (.seq a b) Q ρ w=wpL P a (thenK (wpL P b Q) Q) ρ w:=propext Iff.rfl
@[simp ↓] theorem wpL_cond {c:Operand} {a b:LCode}:wpL P (.cond c a b) Q ρ w=@cdH (ρ.ev c) ⟨fun t=>if t=true then wpL P a Q ρ w else wpL P b Q ρ w⟩:=by simp [cdH,wpL]
@[simp ↓] theorem wpL_block {i:Nat} {c:LCode}:wpL P (.block i c) Q ρ w=wpL P c (blockK i Q) ρ w:=propext Iff.rfl
@[simp ↓] theorem opS_move {x:Operand}:opS P 0 (.move x) ty ρ w KW=KW (ρ.ev x) w:=by simp [opS]
@[simp ↓] theorem opS_assign {x:Operand}:opS P 0 (.assign x) ty ρ w KW=KW (ρ.ev x) w:=by simp [opS]
@[simp ↓] theorem opS_pick {b x y:Operand}:opS P 0 (.pick b x y) ty ρ w KW=@pickH (ρ.ev b) (ρ.ev x) (ρ.ev y) ⟨fun v=>KW v w⟩:=by simp [opS,pickH]
@[simp ↓] theorem opS_build {T:Nat} {parts:Array (Nat × Operand)}:opS P 0 (.build T parts) ty ρ w KW=@bldH P T (parts.toList.map fun p=>(p.1,ρ.ev p.2)) ⟨fun v=>KW v w⟩:=by simp only [opS,true_and,bldH]
@[simp ↓] theorem opS_nilCheck {x:Operand}:opS P 0 (.nilCheck x) ty ρ w KW=@nilH (ρ.ev x) ⟨fun v=>KW v w⟩:=by simp only [opS,true_and,nilH]
@[simp ↓] theorem opS_fieldAddr {T k:Nat} {x:Operand}:opS P 0 (.fieldAddr T x k) ty ρ w KW=@fldAH P T k (ρ.ev x) ⟨fun v=>KW v w⟩:=by simp only [opS,true_and,fldAH]
@[simp ↓] theorem opS_field {T k:Nat} {x:Operand}:opS P 0 (.field T x k) ty ρ w KW=@fldH P T k (ρ.ev x) ⟨fun v=>KW v w⟩:=by simp only [opS,true_and,fldH]
@[simp ↓] theorem opS_indexAddr {T:Nat} {x i:Operand}:opS P 0 (.indexAddr T x i) ty ρ w KW=@idxAH P T (ρ.ev x) (ρ.ev i) ⟨fun v=>KW v w⟩:=by simp only [opS,true_and,idxAH]
@[simp ↓] theorem opS_index {T:Nat} {x i:Operand}:opS P 0 (.index T x i) ty ρ w KW=@idxH P T (ρ.ev x) (ρ.ev i) ⟨fun v=>KW v w⟩:=by simp only [opS,true_and,idxH]
@[simp ↓] theorem opS_extract {i:Nat} {x:Operand}:opS P 0 (.extract x i) ty ρ w KW=@extH (ρ.ev x) i ⟨fun v=>KW v w⟩:=by simp only [opS,true_and,extH]
@[simp ↓] theorem opS_unOp {o:UnOp} {T:Nat} {x:Operand}:opS P 0 (.unOp o T x) ty ρ w KW=@unH o (ρ.ev x) ⟨fun v=>KW v w⟩:=by simp only [opS,true_and,unH]
@[simp ↓] theorem opS_makeInterface {T:Nat} {x:Operand}:opS P 0 (.makeInterface T x) ty ρ w KW=@gdH (isIface P T=some false) ⟨fun _=>KW (.iface T (ρ.ev x)) w⟩:=by simp only [opS,true_and,gdH,gdS]
@[simp ↓] theorem opS_makeFunc {fn:Fn} {a b:Array Operand}:opS P 0 (.makeFunc fn a b) ty ρ w KW=KW (.func fn (a.toList.map ρ.ev).toArray (b.toList.map ρ.ev).toArray) w:=by simp only [opS,true_and]
@[simp ↓] theorem opS_slice {T:Nat} {x:Operand} {lo hi mx:Option Operand}:opS P 0 (.slice T x lo hi mx) ty ρ w KW=@slcH P (Instr.sliceAt T (ρ.ev x) (lo.map ρ.ev) (hi.map ρ.ev) (mx.map ρ.ev)) ⟨fun v=>KW v w⟩:=by simp only [opS,true_and,slcH]
@[simp ↓] theorem opS_typeAssert {x:Operand} {xT aT:Nat} {ok:Bool}:opS P 0 (.typeAssert x xT aT ok) ty ρ w KW=@asH P xT aT ok (ρ.ev x) ⟨fun v=>KW v w⟩:=by simp only [opS,true_and,asH]
@[simp ↓] theorem opS_binOp {o:BinOp} {T yT:Nat} {x y:Operand}:opS P 0 (.binOp o T x y yT) ty ρ w KW=@binH P o T x y (ρ.ev x) (ρ.ev y) ⟨fun v=>KW v w⟩:=by simp [opS,binH]
@[simp ↓] theorem opS_binOpR {o:BinOp} {T yT:Nat} {x y:Operand}:opS P 1 (.binOp o T x y yT) ty ρ w KW=@rdH P (do eqGuard o T x y (ρ.ev x) (ρ.ev y); binOp o T (ρ.ev x) (ρ.ev y)) w ⟨fun v=>KW v w⟩:=by simp [opS,rdH]
@[simp ↓] theorem opS_convert {s d:Nat} {x:Operand}:opS P 0 (.convert s d x) ty ρ w KW=@cnvH P s d (ρ.ev x) ⟨fun v=>KW v w⟩:=by simp [opS,cnvH]
@[simp ↓] theorem opS_load {T:Nat} {a:Operand}:opS P 1 (.load T a) ty ρ w KW=@ldH P T w (ρ.ev a) ⟨fun v=>KW v w⟩:=by simp only [opS,true_and,ldH]
@[simp ↓] theorem opS_lookup {T:Nat} {m k:Operand} {ok:Bool}:opS P 1 (.lookup T m k ok) ty ρ w KW=@rdH P (Instr.lookup T (ρ.ev m) (ρ.ev k) ok) w ⟨fun v=>KW v w⟩:=by simp only [opS,true_and,rdH]
@[simp ↓] theorem opS_box {T:Nat} {x:Operand}:opS P 3 (.box T x) ty ρ w KW=@boxH T w (ρ.ev x) ⟨fun q=>KW q.1 q.2⟩:=by simp only [opS,true_and,boxH]
@[simp ↓] theorem opS_alloc {T:Nat}:opS P 3 (.alloc T) ty ρ w KW=@newH P T w ⟨fun q=>KW q.1 q.2⟩:=by simp only [opS,true_and,newH]
@[simp ↓] theorem opS_buildSlice {T n:Nat} {parts:Array (Nat × Operand)}:opS P 3 (.buildSlice T n parts) ty ρ w KW=@bslH P T n (parts.toList.map fun p=>(p.1,ρ.ev p.2)) w ⟨fun q=>KW q.1 q.2⟩:=by simp only [opS,true_and,bslH]
@[simp ↓] theorem opS_makeMap {T:Nat}:opS P 3 (.makeMap T none) ty ρ w KW=KW (.map (some w.heap.size)) (w.alloc (.map #[] 0)):=by simp only [opS,true_and]
@[simp ↓] theorem opS_makeSlice {T:Nat} {l k:Operand}:opS P 3 (.makeSlice T l k) ty ρ w KW=@mksH P T w (ρ.ev l) (ρ.ev k) ⟨fun q=>KW q.1 q.2⟩:=by simp only [opS,true_and,mksH]
@[simp ↓] theorem opS_store {T:Nat} {a x:Operand}:opS P 2 (.store T a x) ty ρ w KW=@stH P T w (ρ.ev a) (ρ.ev x) ⟨fun w'=>KW undef w'⟩:=by simp only [opS,true_and,stH]
@[simp ↓] theorem opS_mapUpdate {T:Nat} {m k x:Operand}:opS P 2 (.mapUpdate T m k x) ty ρ w KW=@efuH P (Instr.mapUpdate T (ρ.ev m) (ρ.ev k) (ρ.ev x)) w ⟨fun w'=>KW undef w'⟩:=by simp only [opS,true_and,efuH]
@[simp ↓] theorem opS_range {T:Nat} {x:Operand}:opS P 2 (.range T x) ty ρ w KW=@efH P (Instr.range T (ρ.ev x)) w ⟨fun q=>KW q.1 q.2⟩:=by simp only [opS,true_and,efH]
@[simp ↓] theorem opS_next {x:Operand} {s:Bool}:opS P 2 (.next x s) ty ρ w KW=@efH P (Instr.next (ρ.ev x) s ty) w ⟨fun q=>KW q.1 q.2⟩:=by simp only [opS,true_and,efH]
@[simp ↓] theorem opS_entry {x:Operand}:opS P 2 (.entry x) ty ρ w KW=@efH P (Instr.entry (ρ.ev x)) w ⟨fun q=>KW q.1 q.2⟩:=by simp only [opS,true_and,efH]
@[simp ↓] theorem opS_len {args:Array Operand} {tys:Array Nat}:opS P 0 (.call ⟨.builtin .len,args,tys⟩) ty ρ w KW=@optH _ tys[0]? ⟨fun T=>@optH _ args[0]? ⟨fun x=>@lenH P T (ρ.ev x) ⟨fun v=>KW v w⟩⟩⟩:=by simp [opS,lenH,optH]
@[simp ↓] theorem opS_lenR {args:Array Operand} {tys:Array Nat}:opS P 1 (.call ⟨.builtin .len,args,tys⟩) ty ρ w KW=@rdH P (Builtin.len_ tys ty (args.map ρ.ev)) w ⟨fun v=>KW v w⟩:=by simp [opS,rdH]
@[simp ↓] theorem opS_min {args:Array Operand} {tys:Array Nat}:opS P 0 (.call ⟨.builtin .min,args,tys⟩) ty ρ w KW=@mmH false (args.toList.map ρ.ev) ⟨fun v=>KW v w⟩:=by simp only [opS,true_and,mmH]
@[simp ↓] theorem opS_max {args:Array Operand} {tys:Array Nat}:opS P 0 (.call ⟨.builtin .max,args,tys⟩) ty ρ w KW=@mmH true (args.toList.map ρ.ev) ⟨fun v=>KW v w⟩:=by simp only [opS,true_and,mmH]
@[simp ↓] theorem opS_append {args:Array Operand} {tys:Array Nat}:opS P 2 (.call ⟨.builtin .append,args,tys⟩) ty ρ w KW=@efH P (Builtin.append_ tys ty (args.toList.map ρ.ev).toArray) w ⟨fun q=>KW q.1 q.2⟩:=by simp only [opS,true_and,efH]
@[simp ↓] theorem opS_copy {args:Array Operand} {tys:Array Nat}:opS P 2 (.call ⟨.builtin .copy,args,tys⟩) ty ρ w KW=@efH P (Builtin.copy_ tys ty (args.toList.map ρ.ev).toArray) w ⟨fun q=>KW q.1 q.2⟩:=by simp only [opS,true_and,efH]
@[simp ↓] theorem opS_call {f:Operand} {args:Array Operand} {tys:Array Nat}:opS P 2 (.call ⟨.value f,args,tys⟩) ty ρ w KW=@clH P w (ρ.ev f) (args.toList.map ρ.ev) ⟨fun q=>KW q.1 q.2⟩:=by simp only [opS,true_and,clH]
end
section
variable {P:Program} {ρ:Env} {w:World} {Q:Ex→Env→World→Prop}
theorem seq_cut {a b:LCode} (M:Env→World→Prop) (h:wpL P a (thenK M Q) ρ w) (h2:∀ρ w,M ρ w→wpL P b Q ρ w):wpL P (.seq a b) Q ρ w :=
 wpL_mono a (fun e ρ w hk=>by cases e <;> simp only [thenK] at hk ⊢ <;> first | exact h2 _ _ hk | exact hk) h
theorem loop_inv {c:LCode} (I:Nat→Env→World→Prop) (n:Nat) (h0:I n ρ w)
  (h:∀n ρ' w',I n ρ' w'→wpL P c (thenK (fun ρ'' w''=>∃m,m < n∧I m ρ'' w'') Q) ρ' w'):wpL P (.loop c) Q ρ w:=⟨I,⟨n,h0⟩,h⟩
end
theorem res_none {P:Program} {ρ:Env} {w:World}:(resAll P [] ρ).run P w=.ok (.tuple #[]) w:=by simp [resAll]
theorem res_one {P:Program} {ρ:Env} {w:World} {t:Nat}:(resAll P [.tmp t] ρ).run P w=.ok (ρ t) w:=by simp [resAll,resOne]
theorem res_two {P:Program} {ρ:Env} {w:World} {t u:Nat}:(resAll P [.tmp t,.tmp u] ρ).run P w=.ok (.tuple #[ρ t,ρ u]) w:=by simp [resAll,resOne]
theorem res_three {P:Program} {ρ:Env} {w:World} {t u v:Nat}:(resAll P [.tmp t,.tmp u,.tmp v] ρ).run P w=.ok (.tuple #[ρ t,ρ u,ρ v]) w:=by simp [resAll,resOne]
theorem res_four {P:Program} {ρ:Env} {w:World} {t u v x:Nat}:(resAll P [.tmp t,.tmp u,.tmp v,.tmp x] ρ).run P w=.ok (.tuple #[ρ t,ρ u,ρ v,ρ x]) w:=by simp [resAll,resOne]
section
variable {P:Program} {ρ:Env} {w:World} {R:Ending→World→Prop}
@[simp] theorem postL_exit {rs:List ResultVar} {i:Nat}:postL P rs R (.exit i) ρ w=False:=propext Iff.rfl
theorem post_eq {rs:List ResultVar} {v:Value} (h:(resAll P rs ρ).run P w=.ok v w):(∃v,(resAll P rs ρ).run P w=.ok v w∧R (.returned v) w)=R (.returned v) w:=by
 rw [h]; simp
@[simp] theorem postL_n0:postL P [] R .nrm ρ w=R (.returned (.tuple #[])) w:=post_eq res_none
@[simp] theorem postL_r0:postL P [] R .ret ρ w=R (.returned (.tuple #[])) w:=post_eq res_none
@[simp] theorem postL_n1 {t:Nat}:postL P [.tmp t] R .nrm ρ w=R (.returned (ρ t)) w:=post_eq res_one
@[simp] theorem postL_r1 {t:Nat}:postL P [.tmp t] R .ret ρ w=R (.returned (ρ t)) w:=post_eq res_one
@[simp] theorem postL_n2 {t u:Nat}:postL P [.tmp t,.tmp u] R .nrm ρ w=R (.returned (.tuple #[ρ t,ρ u])) w:=post_eq res_two
@[simp] theorem postL_r2 {t u:Nat}:postL P [.tmp t,.tmp u] R .ret ρ w=R (.returned (.tuple #[ρ t,ρ u])) w:=post_eq res_two
@[simp] theorem postL_n3 {t u v:Nat}:postL P [.tmp t,.tmp u,.tmp v] R .nrm ρ w=R (.returned (.tuple #[ρ t,ρ u,ρ v])) w:=post_eq res_three
@[simp] theorem postL_r3 {t u v:Nat}:postL P [.tmp t,.tmp u,.tmp v] R .ret ρ w=R (.returned (.tuple #[ρ t,ρ u,ρ v])) w:=post_eq res_three
@[simp] theorem postL_n4 {t u v x:Nat}:postL P [.tmp t,.tmp u,.tmp v,.tmp x] R .nrm ρ w=R (.returned (.tuple #[ρ t,ρ u,ρ v,ρ x])) w:=post_eq res_four
@[simp] theorem postL_r4 {t u v x:Nat}:postL P [.tmp t,.tmp u,.tmp v,.tmp x] R .ret ρ w=R (.returned (.tuple #[ρ t,ρ u,ρ v,ρ x])) w:=post_eq res_four
end
theorem wrap_i64 {n:Int} (h0:-9223372036854775808≤n) (h1:n≤9223372036854775807):IntKind.i64.wrap n=n:=by
 have hb:IntKind.i64.bits=64:=rfl
 have hs:IntKind.i64.signed=true:=rfl
 simp only [IntKind.wrap,hb,hs,Bool.true_and,decide_eq_true_eq]
 have e1:(2 ^ 64:Int)=18446744073709551616:=by decide
 have e2:(2 ^ (64 - 1):Int)=9223372036854775808:=by decide
 rw [e1,e2]
 split <;> omega
end Go.W
end
section
namespace Go.W
open Go
structure Kp (S:List Nat) (w w':World):Prop where
 os:w'.os=w.os
 tape:w'.tape=w.tape
 output:w'.output=w.output
 size:w.heap.size≤w'.heap.size
 block:∀b,b < w.heap.size→b ∉ S→w'.heap[b]? = w.heap[b]?
theorem Kp.refl (S:List Nat) (w:World):Kp S w w:=⟨rfl,rfl,rfl,Nat.le_refl _,fun _ _ _=>rfl⟩
theorem Kp.trans' {S S':List Nat} {a b c:World} (h:Kp S a b) (k:Kp S' b c) (hs:∀x ∈ S',x ∈ S∨a.heap.size≤x):Kp S a c :=
 ⟨k.os.trans h.os,k.tape.trans h.tape,k.output.trans h.output,Nat.le_trans h.size k.size,fun i hi hn=>(k.block i (Nat.lt_of_lt_of_le hi h.size) (fun hm=>by
  rcases hs i hm with h1 | h1
  ·exact hn h1
  ·omega)).trans (h.block i hi hn)⟩
theorem Kp.trans {S:List Nat} {a b c:World} (h:Kp S a b) (k:Kp S b c):Kp S a c:=h.trans' k fun _ h=>.inl h
theorem Kp.trans0 {S:List Nat} {a b c:World} (h:Kp S a b) (k:Kp [] b c):Kp S a c:=h.trans' k fun _ h=>by cases h
theorem Kp.drew {S:List Nat} {a b:World} (h:Kp S a b):Kp S a b.drew:=⟨h.os,h.tape,h.output,h.size,h.block⟩
theorem Kp.alloc {S:List Nat} {a b:World} (h:Kp S a b) (o:Obj):Kp S a (b.alloc o) :=
 ⟨h.os,h.tape,h.output,by have:=h.size; simp; omega,fun i hi hn=>(alloc_old (Nat.lt_of_lt_of_le hi h.size)).trans (h.block i hi hn)⟩
theorem Kp.setB {S:List Nat} {a b:World} (h:Kp S a b) {i:Nat} (hi:i ∈ S∨a.heap.size≤i) (o:Obj):Kp S a (b.setB i o) :=
 ⟨h.os,h.tape,h.output,by simpa using h.size,fun j hj hn=>(setB_ne (fun e=>by subst e; rcases hi with h1 | h1; exact hn h1; omega)).trans (h.block j hj hn)⟩
theorem Kp.blk {S:List Nat} {w w':World} (h:Kp S w w') {b:Nat} {o:Obj} (hb:w.heap[b]? = some o) (hn:b ∉ S):w'.heap[b]? = some o:=(h.block b (lt_of_blk hb) hn).trans hb
theorem Kp.cell {S:List Nat} {w w':World} (h:Kp S w w') {a:Addr} {v:Value} (hc:w.cell? a=some v) (hn:a.block ∉ S):w'.cell? a=some v:=by
 have hlt:=World.block_lt_of_cell? w a hc
 rw [World.cell?_of_block (h.block a.block hlt hn)]
 exact hc
theorem Kp.below {w w':World} (h:Kp [] w w'):Go.RowKit.Below w.heap.size w w':=⟨h.os,h.tape,h.output,h.size,fun k hk=>h.block k hk (by simp)⟩
@[simp] theorem cellsAt_drew {w:World} {a:Addr}:∀{n i:Nat},cellsAt w.drew a i n=cellsAt w a i n
 | 0,_=>rfl
 | n+1,i=>by simp [cellsAt,cellsAt_drew (n:=n)]
@[simp] theorem rowAt_drew {w:World} {a:Addr}:rowAt w.drew a=rowAt w a:=rfl
end Go.W
end
