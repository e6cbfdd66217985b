/-
  A part of the proof of this claim's statement (Lib2): plain theorems; no conditions beyond those each names.
-/
import Derived.Test.YtkhfdmelcpfgoaaGreatPk03
import Derived.Laws.Sem
import Derived.Laws.World
import Derived.Laws.Entries
import Derived.Laws.Cells
section
set_option linter.unusedVariables false
set_option linter.unusedSimpArgs false
namespace Go.W
open Go
abbrev Env:=Nat→Value
def Env.set (ρ:Env) (d:Nat) (v:Value):Env:=fun t=>if t=d then v else ρ t
def Env.put (ρ:Env):Option Nat→Value→Env
 | some d,v=>ρ.set d v
 | none,_=>ρ
def Env.ev (ρ:Env):Operand→Value
 | .tmp t=>ρ t
 | .const v=>v
 | .global g=>.pointer (some ⟨g,0,none⟩)
 | .func f=>.func (.func f) #[] #[]
def Env.merge (ρ:Env) (ρ':Env):List Nat→Env
 | []=>ρ
 | t :: l=>(ρ.merge ρ' l).set t (ρ' t)
def Env.args (l:List Value):Env:=fun t=>l.getD t undef
def fOff (P:Program) (T k:Nat):Option Nat :=
 match P.underlying T with
 | some (.struct fs)=>match fs[k]? with
  | some f=>match P.info? f.type with
   | some i=>if i.size=0 then none else some f.offset
   | none=>none
  | none=>none
 | _=>none
def tyAgg (P:Program) (T:Nat):Option (Option Nat) :=
 match P.underlying T,P.info? T with
 | some (.struct _),some i=>some (some i.size)
 | some (.array ..),some i=>some (some i.size)
 | some _,some i=>if i.size=1 then some none else none
 | _,_=>none
def slInfo (P:Program) (T:Nat):Option (Nat × Nat × Nat × List Value) :=
 match P.underlying T with
 | some (.slice e)=>match P.info? e with
  | some i=>match i.zero with
   | some z=>if z.cells.size=i.size∧0 < i.size then some (e,i.size,i.bytes,z.cells.toList) else none
   | none=>none
  | none=>none
 | _=>none
def zeroV (P:Program) (T:Nat):Option Value:=match P.info? T with
 | some i=>i.zero
 | none=>none
def isIface (P:Program) (T:Nat):Option Bool:=match P.underlying T with
 | some (.interface _)=>some true
 | some _=>some false
 | none=>none
def intKind (P:Program) (T:Nat):Option IntKind:=match P.underlying T with
 | some (.int k)=>some k
 | _=>none
def isStr (P:Program) (T:Nat):Bool:=match P.underlying T with
 | some .string=>true
 | _=>false
def arrInfo (P:Program) (T:Nat):Option (Nat × Nat × Bool):=match P.underlying T with
 | some (.array n e)=>match P.info? e,P.underlying e with
  | some i,some (.struct _)=>some (n,i.size,true)
  | some i,some (.array ..)=>some (n,i.size,true)
  | some i,some _=>some (n,i.size,false)
  | _,_=>none
 | _=>none
def enterable (P:Program) (f:Nat):Bool:=match P.funcs[f]? with
 | some fn => fn.body.isSome && fn.name != "runtime.NumGoroutine"
 | none=>false
def _root_.Go.World.setB (w:World) (b:Nat) (o:Obj):World:={ w with heap:=w.heap.setIfInBounds b o }
def wrAt (c:Array Value) (o:Nat):List Value→Array Value
 | []=>c
 | v :: vs=>wrAt (c.setIfInBounds o v) (o+1) vs
def oneC:Value→Bool
 | .agg _ | .tuple _=>false
 | _=>true
def optS {α:Type}:Option α→(α→Prop)→Prop
 | some x,K=>K x
 | none,_=>False
def gdS (p A:Prop):Prop:=p∧A
theorem optS_iff {α:Type} {o:Option α} {K:α→Prop}:optS o K↔∃ x,o=some x∧K x:=by
 cases o <;> simp [optS]
theorem gdS_iff {p A:Prop}:gdS p A↔p∧A:=Iff.rfl
def pickS:Value→Value→Value→(Value→Prop)→Prop
 | .bool t,a,b,K=>K (if t then a else b)
 | _,_,_,_=>False
def nilS:Value→(Value→Prop)→Prop
 | .pointer (some a),K=>K (.pointer (some a))
 | .func (.func f) x y,K=>K (.func (.func f) x y)
 | .iface t v,K=>K (.iface t v)
 | _,_=>False
def fldAS (P:Program) (T k:Nat):Value→(Value→Prop)→Prop
 | .pointer (some a),K=>optS (fOff P T k) fun o=>K (.pointer (some (a.add o)))
 | _,_=>False
def partV (isA:Option (Option Nat)) (cs:Array Value) (off:Nat):Option Value :=
 match isA with
 | some none=>cs[off]?
 | some (some n)=>some (.agg (cs.extract off (off+n)))
 | none=>none
def fldInfo (P:Program) (T k:Nat):Option (Option (Option Nat) × Nat) :=
 match P.underlying T with
 | some (.struct fs)=>match fs[k]? with
  | some f=>some (tyAgg P f.type,f.offset)
  | none=>none
 | _=>none
def fldS (P:Program) (T k:Nat):Value→(Value→Prop)→Prop
 | .agg cs,K=>optS (fldInfo P T k) fun q=>optS (partV q.1 cs q.2) K
 | _,_=>False
def idxAS (P:Program) (T:Nat):Value→Value→(Value→Prop)→Prop
 | .slice (some a) len _,.int _ i,K=>optS (slInfo P T) fun q=>gdS (0≤i∧i < len) (K (.pointer (some (a.add (i.toNat * q.2.1)))))
 | .pointer (some a),.int _ i,K=>optS (arrInfo P T) fun q=>gdS (0≤i∧i < q.1) (K (.pointer (some (a.add (i.toNat * q.2.1)))))
 | _,_,_=>False
def arrPart (sz:Nat) (g:Bool) (cs:Array Value) (i:Nat):Option Value:=if g then some (.agg (cs.extract (i * sz) (i * sz+sz))) else cs[i * sz]?
def idxS (P:Program) (T:Nat):Value→Value→(Value→Prop)→Prop
 | .agg cs,.int _ i,K=>optS (arrInfo P T) fun q=>gdS (0≤i∧i < q.1) (optS (arrPart q.2.1 q.2.2 cs i.toNat) K)
 | .string s,.int _ i,K=>gdS (isStr P T=true) (gdS (0≤i) (optS (s[i.toNat]?) fun b=>K (.int .u8 b.toNat)))
 | _,_,_=>False
def extS:Value→Nat→(Value→Prop)→Prop
 | .tuple vs,i,K=>optS (vs[i]?) K
 | _,_,_=>False
def unS:UnOp→Value→(Value→Prop)→Prop
 | .not,.bool b,K=>K (.bool !b)
 | .neg,.int k n,K=>K (.int k (k.wrap (0 - n)))
 | _,_,_=>False
def asS (P:Program) (xT aT:Nat) (ok:Bool):Value→(Value→Prop)→Prop
 | .iface t v,K=>gdS (isIface P aT=some false) (if t=aT then K (if ok then .tuple #[v,.bool true] else v) else gdS (ok=true) (optS (zeroV P aT) fun z=>K (.tuple #[z,.bool false])))
 | .nilIface,K=>gdS (isIface P aT=some false) (gdS (ok=true) (optS (zeroV P aT) fun z=>K (.tuple #[z,.bool false])))
 | _,_=>False
def intS (op:BinOp) (k:IntKind) (a:Int) (k':IntKind) (b:Int) (K:Value→Prop):Prop :=
 match op with
 | .shl=>gdS (0≤b) (K (.int k (k.wrap (a * 2 ^ (min b.toNat k.bits)))))
 | .shr=>gdS (0≤b) (K (.int k (a.fdiv (2 ^ (min b.toNat k.bits)))))
 | .add=>gdS (k=k') (K (.int k (k.wrap (a+b))))
 | .sub=>gdS (k=k') (K (.int k (k.wrap (a - b))))
 | .mul=>gdS (k=k') (K (.int k (k.wrap (a * b))))
 | .quo=>gdS (k=k') (gdS (b≠0) (K (.int k (k.wrap (a.tdiv b)))))
 | .rem=>gdS (k=k') (gdS (b≠0) (K (.int k (a.tmod b))))
 | .and=>gdS (k=k') (K (.int k (k.wrap (BitVec.ofInt k.bits a &&& BitVec.ofInt k.bits b).toNat)))
 | .or=>gdS (k=k') (K (.int k (k.wrap (BitVec.ofInt k.bits a ||| BitVec.ofInt k.bits b).toNat)))
 | .xor=>gdS (k=k') (K (.int k (k.wrap (BitVec.ofInt k.bits a ^^^ BitVec.ofInt k.bits b).toNat)))
 | .andNot=>gdS (k=k') (K (.int k (k.wrap (BitVec.ofInt k.bits a &&& ~~~BitVec.ofInt k.bits b).toNat)))
 | .eql=>gdS (k=k') (K (.bool (a == b)))
 | .neq=>gdS (k=k') (K (.bool (a != b)))
 | .lss=>gdS (k=k') (K (.bool (decide (a < b))))
 | .leq=>gdS (k=k') (K (.bool (decide (a≤b))))
 | .gtr=>gdS (k=k') (K (.bool (decide (a > b))))
 | .geq=>gdS (k=k') (K (.bool (decide (a ≥ b))))
def isC:Operand→Bool
 | .const _=>true
 | _=>false
def isBoolT (P:Program) (T:Nat):Bool:=match P.underlying T with
 | some .bool=>true
 | _=>false
def isPtrT (P:Program) (T:Nat):Bool:=match P.underlying T with
 | some (.pointer _)=>true
 | _=>false
def isMapT (P:Program) (T:Nat):Bool:=match P.underlying T with
 | some (.map ..)=>true
 | _=>false
def isSl (P:Program) (T:Nat):Bool:=match P.underlying T with
 | some (.slice _)=>true
 | _=>false
def intC (P:Program) (t:Nat):Bool:=match P.underlying t,P.info? t with
 | some (.int _),some i=>i.comparable
 | _,_=>false
def eqvV (P:Program) (T:Nat) (x y:Operand):Value→Value→Option Bool
 | .bool a,.bool b=>if isBoolT P T=true then some (a == b) else none
 | .nilIface,.nilIface=>if isIface P T=some true∧(isC x || isC y) then some true else none
 | .iface _ _,.nilIface=>if isIface P T=some true then some false else none
 | .nilIface,.iface _ _=>if isIface P T=some true then some false else none
 | .pointer a,.pointer none=>if isPtrT P T=true then some a.isNone else none
 | .slice a _ _,.slice none _ _=>if isSl P T=true then some a.isNone else none
 | .map a,.map none=>if isMapT P T=true then some a.isNone else none
 | .iface t (.int k a),.iface t' (.int k' b)=>if isIface P T=some true∧t=t'∧k=k'∧intC P t=true then some (a == b) else none
 | _,_=>none
def strS (op:BinOp) (a b:ByteArray) (K:Value→Prop):Prop :=
 match op with
 | .eql=>K (.bool (a.toList == b.toList))
 | .neq=>K (.bool !(a.toList == b.toList))
 | .lss=>K (.bool (Op.bytesLess a.toList b.toList))
 | .leq=>K (.bool (Op.bytesLess a.toList b.toList || a.toList == b.toList))
 | .gtr=>K (.bool !(Op.bytesLess a.toList b.toList || a.toList == b.toList))
 | .geq=>K (.bool !(Op.bytesLess a.toList b.toList))
 | .add=>gdS (((a.size+b.size:Nat):Int)≤IntKind.i64.max) (K (.string (a ++ b)))
 | _=>False
def eqS (P:Program) (op:BinOp) (T:Nat) (x y:Operand) (u v:Value) (K:Value→Prop):Prop :=
 match op with
 | .eql=>optS (eqvV P T x y u v) fun r=>K (.bool r)
 | .neq=>optS (eqvV P T x y u v) fun r=>K (.bool !r)
 | _=>False
def binS (P:Program) (op:BinOp) (T:Nat) (x y:Operand):Value→Value→(Value→Prop)→Prop
 | .int k a,.int k' b,K=>intS op k a k' b K
 | .string a,.string b,K=>strS op a b K
 | u,v,K=>eqS P op T x y u v K
def cnvS (P:Program) (s d:Nat):Value→(Value→Prop)→Prop
 | .int _ n,K=>optS (intKind P d) fun k=>gdS ((P.underlying s).isSome=true) (K (.int k (k.wrap n)))
 | .string b,K=>gdS (isStr P s=true) (gdS (isStr P d=true) (K (.string b)))
 | _,_=>False
def lenS (P:Program) (T:Nat):Value→(Value→Prop)→Prop
 | .string s,K=>gdS (isStr P T=true) (K (.int .i64 s.size))
 | .slice _ n _,K=>gdS (isSl P T=true) (K (.int .i64 n))
 | _,_=>False
def mmI (isMax:Bool) (k:IntKind):Int→List Value→(Value→Prop)→Prop
 | x,[],K=>K (.int k x)
 | x,.int _ y :: l,K=>mmI isMax k (if isMax then (if y > x then y else x) else (if y < x then y else x)) l K
 | _,_,_=>False
def mmS (isMax:Bool):List Value→(Value→Prop)→Prop
 | .int k x :: l,K=>mmI isMax k x l K
 | _,_=>False
structure LO where
 cls:Nat
 dst:Option Nat
 op:Op
 type:TypeId
 guard:Option (Nat × Bool)
def LO.exec (op : Op) (type : TypeId) (ρ : Env) : Sem Next := execOp ρ.ev ⟨none, op, type, "", #[], none⟩
section
variable (P:Program)
def step0 (op:Op) (type:TypeId) (ρ:Env) (w:World) (K:Value→World→Prop):Prop:=∃ v,(∀ w',(LO.exec op type ρ).run P w'=.ok (.value v) w')∧K v w
def step1 (op:Op) (type:TypeId) (ρ:Env) (w:World) (K:Value→World→Prop):Prop:=∃ v,(∀ w',ExtH w w'→(LO.exec op type ρ).run P w'=.ok (.value v) w')∧K v w
def step3 (op:Op) (type:TypeId) (ρ:Env) (w:World) (K:Value→World→Prop):Prop:=∃ v w',((LO.exec op type ρ).run P w=.ok (.value v) w'∧ExtH w w')∧K v w'
def upon2 (K:Value→World→Prop):Result Next→Prop
 | .ok (.value v) w'=>K v w'
 | .ok .skip w'=>K undef w'
 | .ok (.enter f args) w'=>Calls P f args w' fun e w''=>∃ v,e=.returned v∧K v w''
 | _=>False
def step2 (op:Op) (type:TypeId) (ρ:Env) (w:World) (K:Value→World→Prop):Prop:=upon2 P K ((LO.exec op type ρ).run P w)
def stepL (c:Nat) (op:Op) (type:TypeId) (ρ:Env) (w:World) (K:Value→World→Prop):Prop :=
 match c with
 | 0=>step0 P op type ρ w K
 | 1=>step1 P op type ρ w K
 | 3=>step3 P op type ρ w K
 | _=>step2 P op type ρ w K
end
def cellsAt (w:World) (a:Addr):Nat→Nat→Option (List Value)
 | _,0=>some []
 | i,n+1=>match w.cell? (a.add i),cellsAt w a (i+1) n with
  | some c,some l=>some (c :: l)
  | _,_=>none
def ldK (w:World) (a:Addr) (K:Value→Prop):Option (Option Nat)→Prop
 | some none=>optS (w.cell? a) K
 | some (some n)=>optS (cellsAt w a 0 n) fun cs=>K (.agg cs.toArray)
 | none=>False
def ldS (P:Program) (T:Nat) (w:World):Value→(Value→Prop)→Prop
 | .pointer (some a),K=>ldK w a K (tyAgg P T)
 | _,_=>False
def rowO:Option Obj→Option (Array Value × Nat)
 | some (.cells c E (0,0))=>some (c,E)
 | _=>none
def rowAt (w:World) (a:Addr):Option (Array Value × Nat):=rowO (w.heap[a.block]?)
theorem rowAt_spec {w:World} {a:Addr} {c:Array Value} {E:Nat} (h:rowAt w a=some (c,E)):w.heap[a.block]?=some (.cells c E (0,0)):=by
 unfold rowAt rowO at h
 split at h
 ·rename_i c' E' hh
  simp only [Option.some.injEq,Prod.mk.injEq] at h
  obtain ⟨rfl,rfl⟩:=h
  exact hh
 ·cases h
def stC (w:World) (a:Addr) (cs:List Value) (K:World→Prop):Prop :=
 optS (rowAt w a) fun q=>gdS (a.spot=none∧a.off+cs.length≤q.1.size∧cs.all oneC=true) (K (w.setB a.block (.cells (wrAt q.1 a.off cs) q.2 (0,0))))
def tySize (P:Program) (T:Nat):Option Nat:=(P.info? T).map (·.size)
def stS (P:Program) (T:Nat) (w:World):Value→Value→(World→Prop)→Prop
 | .pointer (some a),x,K=>gdS (tySize P T=some x.cells.size) (stC w a x.cells.toList K)
 | _,_,_=>False
def bldInfo (P:Program) (T:Nat):Option (List Value × List (Nat × Nat) × Nat) :=
 match zeroV P T,P.underlying T with
 | some z,some (.struct fs)=>match fs.toList.mapM fun f=>(P.info? f.type).map fun i=>(f.offset,i.size) with
  | some l=>some (z.cells.toList,l,0)
  | none=>none
 | some z,some (.array _ e)=>match P.info? e with
  | some i=>some (z.cells.toList,[],i.size)
  | none=>none
 | _,_=>none
def fillP (pl:List (Nat × Nat)) (cs:Array Value):List (Nat × Value)→Option (Array Value)
 | []=>some cs
 | (i,v) :: r=>match pl[i]? with
  | some q=>if v.cells.size≠q.2 || q.1+q.2 > cs.size then none else fillP pl (wrAt cs q.1 v.cells.toList) r
  | none=>none
def rowOf (z:List Value):Nat→List Value
 | 0=>[]
 | n+1=>z ++ rowOf z n
def fillRow (sz:Nat) (cs:Array Value):List (Nat × Value)→Option (Array Value)
 | []=>some cs
 | (i,v) :: r=>if v.cells.size≠sz || i * sz+sz > cs.size then none else fillRow sz (wrAt cs (i * sz) v.cells.toList) r
def bldV (parts:List (Nat × Value)) (q:List Value × List (Nat × Nat) × Nat):Option (Array Value) :=
 if q.2.2=0 then fillP q.2.1 q.1.toArray parts else fillRow q.2.2 q.1.toArray parts
def bldS (P:Program) (T:Nat) (parts:List (Nat × Value)) (K:Value→Prop):Prop:=optS (bldInfo P T) fun q=>optS (bldV parts q) fun cs=>K (.agg cs)
def rdS (P:Program) (s:Sem Value) (w:World) (K:Value→Prop):Prop:=∃ v,(∀ w',ExtH w w'→s.run P w'=.ok v w')∧K v
def effS (P:Program) (s:Sem Value) (w:World) (K:Value→World→Prop):Prop:=∃ v w',s.run P w=.ok v w'∧K v w'
def efuS (P:Program) (s:Sem Unit) (w:World) (K:World→Prop):Prop:=∃ w',s.run P w=.ok () w'∧K w'
def slcS (P:Program) (s:Sem Value) (K:Value→Prop):Prop:=∃ v,(∀ w',s.run P w'=.ok v w')∧K v
def boxS (T:Nat) (w:World) (v:Value) (K:Value→World→Prop):Prop:=K (.pointer (some ⟨w.heap.size,0,none⟩)) (w.alloc (.cells v.cells T))
def newS (P:Program) (T:Nat) (w:World) (K:Value→World→Prop):Prop:=optS (zeroV P T) fun z=>boxS T w z K
def bslS (P:Program) (T n:Nat) (parts:List (Nat × Value)) (w:World) (K:Value→World→Prop):Prop :=
 optS (slInfo P T) fun q=>gdS (n * q.2.1≤16777216) (optS (fillRow q.2.1 (rowOf q.2.2.2 n).toArray parts) fun cs=>K (.slice (some ⟨w.heap.size,0,none⟩) n n) (w.alloc (.cells cs q.1)))
def mksS (P:Program) (T:Nat) (w:World):Value→Value→(Value→World→Prop)→Prop
 | .int _ l,.int _ c,K=>optS (slInfo P T) fun q=>gdS (0≤l∧l≤c∧c≤9223372036854775807∧q.2.2.1 * c≤140737488355328)
   (K (.slice (some ⟨w.heap.size,0,none⟩) l.toNat c.toNat) (w.alloc (.cells (rowOf q.2.2.2 c.toNat).toArray q.1)))
 | _,_,_=>False
def callK (P:Program) (w:World) (f:Nat) (args:List Value) (K:Value→World→Prop):Prop:=Calls P f args.toArray w fun e w'=>∃ v,e=.returned v∧K v w'
def callS (P:Program) (w:World):Value→List Value→(Value→World→Prop)→Prop
 | .func (.func f) x y,args,K=>gdS (enterable P f=true) (callK P w f (x.toList ++ args ++ y.toList) K)∨∃ v w',(callFunc f (x.toList ++ args ++ y.toList).toArray).run P w=.ok (.value v) w'∧K v w'
 | _,_,_=>False
def opS (P:Program) (c:Nat) (op:Op) (ty:TypeId) (ρ:Env) (w:World) (K:Value→World→Prop):Prop :=
 match op with
 | .move x | .assign x=>c=0∧K (ρ.ev x) w
 | .pick b x y=>c=0∧pickS (ρ.ev b) (ρ.ev x) (ρ.ev y) fun v=>K v w
 | .build T parts=>c=0∧bldS P T (parts.toList.map fun (i,x)=>(i,ρ.ev x)) fun v=>K v w
 | .nilCheck x=>c=0∧nilS (ρ.ev x) fun v=>K v w
 | .fieldAddr T x k=>c=0∧fldAS P T k (ρ.ev x) fun v=>K v w
 | .field T x k=>c=0∧fldS P T k (ρ.ev x) fun v=>K v w
 | .indexAddr T x i=>c=0∧idxAS P T (ρ.ev x) (ρ.ev i) fun v=>K v w
 | .index T x i=>c=0∧idxS P T (ρ.ev x) (ρ.ev i) fun v=>K v w
 | .extract x i=>c=0∧extS (ρ.ev x) i fun v=>K v w
 | .unOp o _ x=>c=0∧unS o (ρ.ev x) fun v=>K v w
 | .makeInterface T x=>c=0∧isIface P T=some false∧K (.iface T (ρ.ev x)) w
 | .makeFunc fn a b=>c=0∧K (.func fn (a.toList.map ρ.ev).toArray (b.toList.map ρ.ev).toArray) w
 | .slice T x lo hi mx=>c=0∧slcS P (Instr.sliceAt T (ρ.ev x) (lo.map ρ.ev) (hi.map ρ.ev) (mx.map ρ.ev)) fun v=>K v w
 | .typeAssert x xT aT ok=>c=0∧asS P xT aT ok (ρ.ev x) fun v=>K v w
 | .binOp o T x y _=>if c=1 then rdS P (do eqGuard o T x y (ρ.ev x) (ρ.ev y); binOp o T (ρ.ev x) (ρ.ev y)) w fun v=>K v w else c=0∧binS P o T x y (ρ.ev x) (ρ.ev y) fun v=>K v w
 | .convert s d x=>if c=2 then effS P (convert s d (ρ.ev x)) w K else c=0∧cnvS P s d (ρ.ev x) fun v=>K v w
 | .load T a=>c=1∧ldS P T w (ρ.ev a) fun v=>K v w
 | .lookup T m k ok=>c=1∧rdS P (Instr.lookup T (ρ.ev m) (ρ.ev k) ok) w fun v=>K v w
 | .box T x=>c=3∧boxS T w (ρ.ev x) K
 | .alloc T=>c=3∧newS P T w K
 | .buildSlice T n parts=>c=3∧bslS P T n (parts.toList.map fun (i,x)=>(i,ρ.ev x)) w K
 | .makeMap T none=>c=3∧K (.map (some w.heap.size)) (w.alloc (.map #[] 0))
 | .makeSlice T l k=>c=3∧mksS P T w (ρ.ev l) (ρ.ev k) K
 | .store T a x=>c=2∧stS P T w (ρ.ev a) (ρ.ev x) fun w'=>K undef w'
 | .mapUpdate T m k x=>c=2∧efuS P (Instr.mapUpdate T (ρ.ev m) (ρ.ev k) (ρ.ev x)) w fun w'=>K undef w'
 | .mapEntry T m k=>c=2∧effS P (Instr.mapEntry T (ρ.ev m) (ρ.ev k)) w K
 | .entryStore T m s x=>c=2∧efuS P (Instr.entryStore T (ρ.ev m) (ρ.ev s) (ρ.ev x)) w fun w'=>K undef w'
 | .range T x=>c=2∧effS P (Instr.range T (ρ.ev x)) w K
 | .next x s=>c=2∧effS P (Instr.next (ρ.ev x) s ty) w K
 | .entry x=>c=2∧effS P (Instr.entry (ρ.ev x)) w K
 | .call ⟨.builtin .len,args,tys⟩=>if c=1 then rdS P (Builtin.len_ tys ty (args.map ρ.ev)) w fun v=>K v w else c=0∧optS tys[0]? fun T=>optS args[0]? fun x=>lenS P T (ρ.ev x) fun v=>K v w
 | .call ⟨.builtin .min,args,tys⟩=>c=0∧mmS false (args.toList.map ρ.ev) fun v=>K v w
 | .call ⟨.builtin .max,args,tys⟩=>c=0∧mmS true (args.toList.map ρ.ev) fun v=>K v w
 | .call ⟨.builtin .append,args,tys⟩=>c=2∧effS P (Builtin.append_ tys ty (args.toList.map ρ.ev).toArray) w K
 | .call ⟨.builtin .copy,args,tys⟩=>c=2∧effS P (Builtin.copy_ tys ty (args.toList.map ρ.ev).toArray) w K
 | .call ⟨.builtin .delete,args,tys⟩=>c=2∧effS P (Builtin.delete_ tys ty (args.toList.map ρ.ev).toArray) w K
 | .call ⟨.value f,args,tys⟩=>c=2∧callS P w (ρ.ev f) (args.toList.map ρ.ev) K
 | op=>stepL P c op ty ρ w K
section
variable {P:Program} {ρ:Env} {w:World} {ty:TypeId}
theorem setI_same (h:Array Obj) (b:Nat) (o:Obj) (hb:h[b]?=some o):h.setIfInBounds b o=h:=by
 apply Array.ext_getElem?
 intro i
 rw [Array.getElem?_setIfInBounds]
 split
 ·rename_i e
  subst e
  have:=(Array.getElem?_eq_some_iff.1 hb).1
  rw [if_pos this]; exact hb.symm
 ·rfl
theorem setB_same {b:Nat} {o:Obj} (h:w.heap[b]?=some o):w.setB b o=w:=by
 unfold World.setB
 rw [setI_same _ _ _ h]
theorem setB_setB {b:Nat} {o o':Obj}:(w.setB b o).setB b o'=w.setB b o':=by
 unfold World.setB
 simp
theorem setB_at {b:Nat} {o o':Obj} (h:w.heap[b]?=some o'):(w.setB b o).heap[b]?=some o:=by
 have:=(Array.getElem?_eq_some_iff.1 h).1
 simp [World.setB,this]
theorem setCell_setB {b i:Nat} {c:Array Value} {E:TypeId} {v:Value} (h:w.heap[b]?=some (.cells c E (0,0))) :
  w.setCell ⟨b,i,none⟩ v=w.setB b (.cells (c.setIfInBounds i v) E (0,0)):=by
 unfold World.setCell World.setB
 congr 1
 apply Array.ext_getElem?
 intro j
 rw [Array.getElem?_modify,Array.getElem?_setIfInBounds]
 split
 ·rename_i e
  subst e
  have:=(Array.getElem?_eq_some_iff.1 h).1
  rw [if_pos this,h]
  simp
 ·rfl
theorem addr_add (b o i:Nat):(⟨b,o,none⟩:Addr).add i=⟨b,o+i,none⟩:=by
 unfold Addr.add
 split
 ·rename_i h; subst h; rfl
 ·rfl
theorem run_storeCells {b o:Nat} {E:TypeId}:∀ (vs:List Value) (i:Nat) (c:Array Value) (w:World),w.heap[b]?=some (.cells c E (0,0))→o+i+vs.length≤c.size→vs.all oneC=true →
  (storeCells ⟨b,o,none⟩ vs i).run P w=.ok () (w.setB b (.cells (wrAt c (o+i) vs) E (0,0)))
 | [],i,c,w,h,_,_=>by
  simp only [storeCells,Sem.run_pure,wrAt]
  rw [setB_same h]
 | v :: vs,i,c,w,h,hs,ho=>by
  simp only [List.all_cons,Bool.and_eq_true] at ho
  simp only [storeCells,Sem.run_bind,addr_add]
  have hs':o+i+(vs.length+1)≤c.size:=by simpa using hs
  have hc:w.cell? ⟨b,o+i,none⟩=some c[o+i]:=by
   simp only [World.cell?,h]
   simp [Array.getElem?_eq_getElem (show o+i < c.size by clear hs; omega)]
  have hf:w.frozen? ⟨b,o+i,none⟩=false:=by
   simp only [World.frozen?,h]
   simp
  have h1:(store ⟨b,o+i,none⟩ v).run P w=.ok () (w.setCell ⟨b,o+i,none⟩ v):=by
   rw [run_store P w _ v .plain (by cases v <;> simp_all [oneC,Value.oneCell'])]
   simp [hc,hf]
  rw [h1]
  simp only [Result.andThen_ok]
  rw [setCell_setB h]
  have:=run_storeCells (o:=o) vs (i+1) (c.setIfInBounds (o+i) v) (w.setB b (.cells (c.setIfInBounds (o+i) v) E (0,0))) (setB_at h) (by simp; omega) ho.2
  rw [this,setB_setB]
  simp [wrAt,Nat.add_assoc]
theorem cell_ext {w w':World} (h:ExtH w w') {a:Addr} {v:Value} (hc:w.cell? a=some v):w'.cell? a=some v:=by
 unfold World.cell? at hc
 split at hc
 ·rename_i c e f hb
  unfold World.cell?
  rw [h _ _ hb]
  exact hc
 ·cases hc
theorem cellsAt_ext {w w':World} (h:ExtH w w') {a:Addr}:∀ (n i:Nat) (cs:List Value),cellsAt w a i n=some cs→cellsAt w' a i n=some cs
 | 0,_,_,hc=>hc
 | n+1,i,cs,hc=>by
  unfold cellsAt at hc ⊢
  split at hc
  ·rename_i c l h1 h2
   rw [cell_ext h h1,cellsAt_ext h n _ _ h2]
   exact hc
  ·cases hc
theorem run_loadCellsAt {a:Addr}:∀ (n i:Nat) (cs:List Value) (acc:Array Value),cellsAt w a i n=some cs→(loadCellsFrom a i n acc).run P w=.ok (acc ++ cs.toArray) w
 | 0,i,cs,acc,h=>by
  simp only [cellsAt,Option.some.injEq] at h
  subst h
  simp [loadCellsFrom]
 | n+1,i,cs,acc,h=>by
  unfold cellsAt at h
  split at h
  ·rename_i c l h1 h2
   simp only [Option.some.injEq] at h
   subst h
   have ih:=run_loadCellsAt n (i+1) l (acc.push c) h2
   simp only [loadCellsFrom,Sem.run_bind,run_load,h1,Result.andThen_ok,ih]
   simp
  ·cases h
theorem ldS_run {T:Nat} {v:Value} {K:Value→Prop} (h:ldS P T w v K):∃ u,(∀ w',ExtH w w'→(Instr.loadAt T v).run P w'=.ok u w')∧K u:=by
 unfold ldS at h
 split at h
 ·rename_i a
  unfold ldK at h
  simp only [optS_iff] at h
  split at h
  ·rename_i ht
   obtain ⟨c,hc,hk⟩:=h
   refine ⟨c,fun w' hw'=>?_,hk⟩
   have hc':=cell_ext hw' hc
   unfold tyAgg at ht
   split at ht
   ·cases ht
   ·cases ht
   ·rename_i d i hna1 hna2 hu hi
    have:(isAgg T).run P w'=.ok false w':=by
     unfold isAgg
     rw [Sem.run_bind,run_underlying hu]
     simp only [Result.andThen_ok]
     cases d <;> simp_all
    simp [Instr.loadAt,Instr.sureAddr,loadVar,this,hc']
   ·cases ht
  ·rename_i n ht
   obtain ⟨cs,hc,hk⟩:=h
   refine ⟨_,fun w' hw'=>?_,hk⟩
   have hc':=cellsAt_ext hw' _ _ _ hc
   have hr:=run_loadCellsAt (P:=P) _ _ _ #[] hc'
   unfold tyAgg at ht
   split at ht
   ·rename_i fs i hu hi
    simp only [Option.some.injEq] at ht
    subst ht
    simp [Instr.loadAt,Instr.sureAddr,loadVar,isAgg,run_underlying hu,sizeOf,typeInfo,hi,loadCells,hr]
   ·rename_i l e i hu hi
    simp only [Option.some.injEq] at ht
    subst ht
    simp [Instr.loadAt,Instr.sureAddr,loadVar,isAgg,run_underlying hu,sizeOf,typeInfo,hi,loadCells,hr]
   ·split at ht <;> cases ht
   ·cases ht
  ·cases h
 ·cases h
theorem stS_run {T:Nat} {v x:Value} {K:World→Prop} (h:stS P T w v x K):∃ w',(Instr.storeAt T v x).run P w=.ok () w'∧K w':=by
 unfold stS at h
 split at h
 ·rename_i K a
  simp only [stC,optS_iff,gdS_iff] at h
  obtain ⟨hs,⟨c,E⟩,hb,⟨hsp,hlen,ho⟩,hk⟩:=h
  replace hb:=rowAt_spec hb
  obtain ⟨b,o,s⟩:=a
  dsimp only at hsp hb hlen hk
  subst hsp
  unfold tySize at hs
  cases hi:P.info? T with
  | none=>rw [hi] at hs; cases hs
  | some i =>
   rw [hi] at hs
   simp only [Option.map_some,Option.some.injEq] at hs
   have:=run_storeCells (P:=P) (o:=o) _ 0 c w hb (by simpa using hlen) ho
   refine ⟨_,?_,hk⟩
   simp [Instr.storeAt,Instr.sureAddr,storeVar,sizeOf,typeInfo,hi,hs,this]
 ·cases h
theorem fldAS_run {T k:Nat} {v:Value} {K:Value→Prop} (h:fldAS P T k v K):∃ u,(∀ w',(Instr.fieldAt T v k).run P w'=.ok u w')∧K u:=by
 unfold fldAS at h
 simp only [optS_iff,gdS_iff] at h
 split at h
 ·obtain ⟨o,ho,hk⟩:=h
  refine ⟨_,fun w'=>?_,hk⟩
  unfold fOff at ho
  split at ho
  ·rename_i fs hu
   split at ho
   ·rename_i f hf
    split at ho
    ·rename_i i hi
     split at ho
     ·cases ho
     ·rename_i hz
      simp only [Option.some.injEq] at ho
      subst ho
      simp [Instr.fieldAt,run_underlying hu,hf,Instr.sureAddr,fieldPlace,sizeOf,typeInfo,hi,hz]
    ·cases ho
   ·cases ho
  ·cases ho
 ·cases h
theorem slInfo_spec {T e sz by_:Nat} {z:List Value} (h:slInfo P T=some (e,sz,by_,z)) :
  ∃ i zv,P.underlying T=some (.slice e)∧P.info? e=some i∧i.zero=some zv∧i.size=sz∧i.bytes=by_∧zv.cells.toList=z∧zv.cells.size=sz∧0 < sz:=by
 unfold slInfo at h
 split at h
 ·rename_i e' hu
  split at h
  ·rename_i i hi
   split at h
   ·rename_i zv hz
    split at h
    ·rename_i hc
     simp only [Option.some.injEq,Prod.mk.injEq] at h
     obtain ⟨rfl,rfl,rfl,rfl⟩:=h
     exact ⟨i,zv,hu,hi,hz,rfl,rfl,rfl,hc.1,hc.2⟩
    ·cases h
   ·cases h
  ·cases h
 ·cases h
theorem idxAS_run {T:Nat} {v x:Value} {K:Value→Prop} (h:idxAS P T v x K):∃ u,(∀ w',(Instr.indexAt T v x).run P w'=.ok u w')∧K u:=by
 unfold idxAS at h
 simp only [optS_iff,gdS_iff] at h
 split at h
 ·obtain ⟨⟨e,sz,by_,z⟩,hs,hi,hk⟩:=h
  obtain ⟨i,zv,hu,hinf,_,rfl,_⟩:=slInfo_spec hs
  refine ⟨_,fun w'=>?_,hk⟩
  simp [Instr.indexAt,asIntOf,run_underlying hu,hi,sizeOf,typeInfo,hinf]
 ·obtain ⟨⟨n,sz,g⟩,hs,hi,hk⟩:=h
  dsimp only at hi
  refine ⟨_,fun w'=>?_,hk⟩
  unfold arrInfo at hs
  split at hs
  ·rename_i n' e hu
   have hsz:∃ i,P.info? e=some i∧i.size=sz∧n'=n:=by
    split at hs
    all_goals first | (simp only [Option.some.injEq,Prod.mk.injEq] at hs; exact ⟨_,by assumption,hs.2.1,hs.1⟩) | cases hs
   obtain ⟨i,hinf,rfl,rfl⟩:=hsz
   simp [Instr.indexAt,asIntOf,run_underlying hu,Instr.sureAddr,hi,sizeOf,typeInfo,hinf]
  ·cases hs
 ·cases h
theorem run_isAgg_tyAgg {T:Nat} {r:Option Nat} (h:tyAgg P T=some r) (w:World):(isAgg T).run P w=.ok r.isSome w∧∀ n,r=some n→(sizeOf T).run P w=.ok n w:=by
 unfold tyAgg at h
 split at h
 ·rename_i fs i hu hi
  simp only [Option.some.injEq] at h
  subst h
  refine ⟨by simp [isAgg,run_underlying hu],?_⟩
  rintro n ⟨rfl⟩
  simp [sizeOf,typeInfo,hi]
 ·rename_i l e i hu hi
  simp only [Option.some.injEq] at h
  subst h
  refine ⟨by simp [isAgg,run_underlying hu],?_⟩
  rintro n ⟨rfl⟩
  simp [sizeOf,typeInfo,hi]
 ·rename_i d i hna1 hna2 hu hi
  split at h
  ·simp only [Option.some.injEq] at h
   subst h
   refine ⟨?_,by rintro n ⟨⟩⟩
   unfold isAgg
   rw [Sem.run_bind,run_underlying hu]
   simp only [Result.andThen_ok]
   cases d <;> simp_all
  ·cases h
 ·cases h
theorem run_part {T:Nat} {cs:Array Value} {off:Nat} {v:Value} (h:partV (tyAgg P T) cs off=some v) (w:World):(part T cs off).run P w=.ok v w:=by
 unfold partV at h
 split at h
 ·rename_i hr
  obtain ⟨h1,_⟩:=run_isAgg_tyAgg hr w
  simp [part,h1,h]
 ·rename_i n hr
  obtain ⟨h1,h2⟩:=run_isAgg_tyAgg hr w
  simp only [Option.some.injEq] at h
  subst h
  simp [part,h1,h2 n rfl]
 ·cases h
theorem fldS_run {T k:Nat} {v:Value} {K:Value→Prop} (h:fldS P T k v K):∃ u,(∀ w',(Instr.field T v k).run P w'=.ok u w')∧K u:=by
 unfold fldS at h
 simp only [optS_iff,gdS_iff] at h
 split at h
 ·obtain ⟨⟨ag,of⟩,hinfo,v,hp,hk⟩:=h
  obtain ⟨fs,f,hu,hf,rfl,rfl⟩:∃ fs f,P.underlying T=some (.struct fs)∧fs[k]?=some f∧tyAgg P f.type=ag∧f.offset=of:=by
   unfold fldInfo at hinfo
   split at hinfo
   ·rename_i fs hu
    split at hinfo
    ·rename_i f hf
     simp only [Option.some.injEq,Prod.mk.injEq] at hinfo
     exact ⟨fs,f,hu,hf,hinfo.1,hinfo.2⟩
    ·cases hinfo
   ·cases hinfo
  refine ⟨v,fun w'=>?_,hk⟩
  simp [Instr.field,run_underlying hu,hf,asAgg,run_part hp]
 ·cases h
theorem idxS_run {T:Nat} {v x:Value} {K:Value→Prop} (h:idxS P T v x K):∃ u,(∀ w',(Instr.index T v x).run P w'=.ok u w')∧K u:=by
 unfold idxS at h
 simp only [optS_iff,gdS_iff] at h
 split at h
 ·obtain ⟨⟨n,sz,g⟩,hs,hi,u,hp,hk⟩:=h
  dsimp only at hi
  simp only [arrPart] at hp
  refine ⟨u,fun w'=>?_,hk⟩
  unfold arrInfo at hs
  split at hs
  ·rename_i n' e hu
   split at hs
   ·rename_i i fs hinf hue
    simp only [Option.some.injEq,Prod.mk.injEq] at hs
    obtain ⟨rfl,rfl,rfl⟩:=hs
    simp only [if_true,Option.some.injEq] at hp
    simp [Instr.index,asIntOf,run_underlying hu,hi,sizeOf,typeInfo,hinf,part,isAgg,run_underlying hue,hp]
   ·rename_i i l e' hinf hue
    simp only [Option.some.injEq,Prod.mk.injEq] at hs
    obtain ⟨rfl,rfl,rfl⟩:=hs
    simp only [if_true,Option.some.injEq] at hp
    simp [Instr.index,asIntOf,run_underlying hu,hi,sizeOf,typeInfo,hinf,part,isAgg,run_underlying hue,hp]
   ·rename_i i d hn1 hn2 hinf hue
    simp only [Option.some.injEq,Prod.mk.injEq] at hs
    obtain ⟨rfl,rfl,rfl⟩:=hs
    simp only [Bool.false_eq_true,if_false] at hp
    have:(isAgg e).run P w'=.ok false w':=by
     unfold isAgg
     rw [Sem.run_bind,run_underlying hue]
     simp only [Result.andThen_ok]
     cases d <;> simp_all
    simp [Instr.index,asIntOf,run_underlying hu,hi,sizeOf,typeInfo,hinf,part,this,hp]
   ·cases hs
  ·cases hs
 ·rename_i s k i K
  obtain ⟨hstr,hi,b,hb,hk⟩:=h
  refine ⟨_,fun w'=>?_,hk⟩
  unfold isStr at hstr
  split at hstr
  ·rename_i hu
   simp [Instr.index,asIntOf,run_underlying hu,hi,hb]
  ·cases hstr
 ·cases h
theorem mmI_run {isMax:Bool} {k:IntKind}:∀ (l:List Value) (x:Int) {K:Value→Prop},mmI isMax k x l K→∃ u,(∀ w',(l.foldlM (if isMax then Builtin.max2 else Builtin.min2) (.int k x)).run P w'=.ok u w')∧K u
 | [],x,K,h=>⟨_,fun w'=>rfl,h⟩
 | .int k' y :: l,x,K,h=>by
  simp only [mmI] at h
  obtain ⟨u,hu,hk⟩:=mmI_run l _ h
  refine ⟨u,fun w'=>?_,hk⟩
  have:=hu w'
  cases isMax <;> simpa [List.foldlM_cons,Builtin.max2,Builtin.min2] using this
 | .bool _ :: _,_,_,h | .float .. :: _,_,_,h | .complex .. :: _,_,_,h | .string _ :: _,_,_,h | .pointer _ :: _,_,_,h | .slice .. :: _,_,_,h | .map _ :: _,_,_,h | .chan _ :: _,_,_,h
 | .func .. :: _,_,_,h | .nilFunc :: _,_,_,h | .iface .. :: _,_,_,h | .nilIface :: _,_,_,h | .agg _ :: _,_,_,h | .tuple _ :: _,_,_,h=>h.elim
theorem mmS_run {isMax:Bool} {l:List Value} {K:Value→Prop} (h:mmS isMax l K) (tys:Array TypeId):∃ u,(∀ w',((if isMax then Builtin.max_ else Builtin.min_) tys ty l.toArray).run P w'=.ok u w')∧K u:=by
 unfold mmS at h
 split at h
 ·obtain ⟨u,hu,hk⟩:=mmI_run (P:=P) _ _ h
  refine ⟨u,fun w'=>?_,hk⟩
  have:=hu w'
  cases isMax <;> simpa [Builtin.max_,Builtin.min_] using this
 ·cases h
theorem isIface_spec {T:Nat} {b:Bool} (h:isIface P T=some b):∃ d,P.underlying T=some d∧(b=false→∀ ms,d≠.interface ms)∧(b=true→∃ ms,d=.interface ms):=by
 unfold isIface at h
 split at h
 ·rename_i ms hu
  simp only [Option.some.injEq] at h
  subst h
  exact ⟨_,hu,by simp,fun _=>⟨_,rfl⟩⟩
 ·rename_i d hn hu
  simp only [Option.some.injEq] at h
  subst h
  exact ⟨_,hu,fun _ ms e=>hn ms e,by simp⟩
 ·cases h
theorem run_makeIface {T:Nat} (h:isIface P T=some false) (v:Value) (w:World):(Instr.makeInterface T v).run P w=.ok (.iface T v) w:=by
 obtain ⟨d,hu,hn,_⟩:=isIface_spec h
 unfold Instr.makeInterface
 rw [Sem.run_bind,run_underlying hu]
 simp only [Result.andThen_ok]
 split
 ·rename_i ms; exact absurd rfl (hn rfl _)
 ·rfl
theorem zeroV_run {T:Nat} {z:Value} (h:zeroV P T=some z) (w:World):(zeroValue T).run P w=.ok z w:=by
 unfold zeroV at h
 split at h
 ·rename_i i hi
  simp [zeroValue,typeInfo,hi,h]
 ·cases h
theorem asS_run {xT aT:Nat} {ok:Bool} {v:Value} {K:Value→Prop} (h:asS P xT aT ok v K):∃ u,(∀ w',(Instr.typeAssert v xT aT ok).run P w'=.ok u w')∧K u:=by
 unfold asS at h
 simp only [optS_iff,gdS_iff] at h
 split at h
 ·rename_i t v K
  obtain ⟨hi,h⟩:=h
  obtain ⟨d,hu,hn,_⟩:=isIface_spec hi
  have hn':=hn rfl
  split at h
  ·rename_i ht
   refine ⟨_,fun w'=>?_,h⟩
   unfold Instr.typeAssert
   simp only [Sem.run_bind,run_underlying hu,Result.andThen_ok]
   cases d <;> first | exact absurd rfl (hn' _) | (simp [ht])
  ·rename_i ht
   obtain ⟨rfl,z,hz,hk⟩:=h
   refine ⟨_,fun w'=>?_,hk⟩
   unfold Instr.typeAssert
   simp only [Sem.run_bind,run_underlying hu,Result.andThen_ok]
   cases d <;> first | exact absurd rfl (hn' _) | (simp [ht,zeroV_run hz])
 ·obtain ⟨hi,rfl,z,hz,hk⟩:=h
  obtain ⟨d,hu,hn,_⟩:=isIface_spec hi
  have hn':=hn rfl
  refine ⟨_,fun w'=>?_,hk⟩
  unfold Instr.typeAssert
  simp only [Sem.run_bind,run_underlying hu,Result.andThen_ok]
  cases d <;> first | exact absurd rfl (hn' _) | (simp [zeroV_run hz])
 ·cases h
theorem intS_run {op:BinOp} {k k':IntKind} {a b:Int} {K:Value→Prop} {T:Nat} {x y:Operand} (h:intS op k a k' b K) :
  ∃ u,(∀ w',(do eqGuard op T x y (.int k a) (.int k' b); binOp op T (.int k a) (.int k' b):Sem Value).run P w'=.ok u w')∧K u:=by
 have hg:∀ w':World,(eqGuard op T x y (.int k a) (.int k' b)).run P w'=.ok () w':=by
  intro w'
  unfold eqGuard
  cases op <;> simp
 cases op <;> simp only [intS,gdS_iff] at h
 case quo =>
  obtain ⟨rfl,hb,hk⟩:=h
  exact ⟨_,fun w'=>by simp [Sem.run_bind,hg,binOp,Op.intDiv,hb],hk⟩
 case rem =>
  obtain ⟨rfl,hb,hk⟩:=h
  exact ⟨_,fun w'=>by simp [Sem.run_bind,hg,binOp,Op.intDiv,hb],hk⟩
 case shl =>
  obtain ⟨hb,hk⟩:=h
  have:¬ b < 0:=by omega
  exact ⟨_,fun w'=>by simp [Sem.run_bind,hg,binOp,Op.shift,this],hk⟩
 case shr =>
  obtain ⟨hb,hk⟩:=h
  have:¬ b < 0:=by omega
  exact ⟨_,fun w'=>by simp [Sem.run_bind,hg,binOp,Op.shift,this],hk⟩
 all_goals (obtain ⟨rfl,hk⟩:=h; exact ⟨_,fun w'=>by simp [Sem.run_bind,hg,binOp,Op.intArith,Op.intCmp,Op.intBits],hk⟩)
theorem ite_some {α:Type} {c:Prop} [Decidable c] {a b:α} (h:(if c then some a else none)=some b):c∧a=b:=by
 split at h
 ·rename_i hc; exact ⟨hc,Option.some.inj h⟩
 ·cases h
theorem equal_once (T:Nat):∃ d,∀ u v,Op.equal T u v=Op.equalIn (d+1) T u v:=⟨9999,fun _ _=>rfl⟩
theorem equal_twice (T:Nat):∃ d,∀ u v,Op.equal T u v=Op.equalIn (d+2) T u v:=⟨9998,fun _ _=>rfl⟩
theorem eqvV_run {T:Nat} {x y:Operand} {u v:Value} {r:Bool} (h:eqvV P T x y u v=some r) (w:World) :
  (eqGuard .eql T x y u v).run P w=.ok () w∧(eqGuard .neq T x y u v).run P w=.ok () w∧(Op.equal T u v).run P w=.ok r w:=by
 obtain ⟨d',hd'⟩:=equal_once T
 unfold eqvV at h
 split at h
 · -- bools
  obtain ⟨hc,rfl⟩:=ite_some h
  unfold isBoolT at hc
  split at hc
  ·rename_i hu
   simp [eqGuard,hd',Op.equalIn,run_underlying hu]
  ·cases hc
 · -- nil,nil
  obtain ⟨⟨hi,hc⟩,rfl⟩:=ite_some h
  obtain ⟨d,hu,_,hd⟩:=isIface_spec hi
  obtain ⟨ms,rfl⟩:=hd rfl
  have hc':((match x with | .const _=>true | _=>false) || (match y with | .const _=>true | _=>false))=true:=by
   cases x <;> cases y <;> first | rfl | cases hc
  refine ⟨?_,?_,by simp [hd',Op.equalIn,run_underlying hu]⟩
  ·cases x <;> cases y <;> first | (exfalso; cases hc; done) | simp [eqGuard]
  ·cases x <;> cases y <;> first | (exfalso; cases hc; done) | simp [eqGuard]
 ·obtain ⟨hi,rfl⟩:=ite_some h
  obtain ⟨d,hu,_,hd⟩:=isIface_spec hi
  obtain ⟨ms,rfl⟩:=hd rfl
  simp [eqGuard,hd',Op.equalIn,run_underlying hu]
 ·obtain ⟨hi,rfl⟩:=ite_some h
  obtain ⟨d,hu,_,hd⟩:=isIface_spec hi
  obtain ⟨ms,rfl⟩:=hd rfl
  simp [eqGuard,hd',Op.equalIn,run_underlying hu]
 ·rename_i a
  obtain ⟨hc,rfl⟩:=ite_some h
  unfold isPtrT at hc
  split at hc
  ·rename_i e hu
   cases a <;> simp [eqGuard,hd',Op.equalIn,run_underlying hu]
  ·cases hc
 ·rename_i a _ _ _ _
  obtain ⟨hc,rfl⟩:=ite_some h
  unfold isSl at hc
  split at hc
  ·rename_i e hu
   cases a <;> simp [eqGuard,hd',Op.equalIn,run_underlying hu]
  ·cases hc
 ·rename_i a
  obtain ⟨hc,rfl⟩:=ite_some h
  unfold isMapT at hc
  split at hc
  ·rename_i k e hu
   cases a <;> simp [eqGuard,hd',Op.equalIn,run_underlying hu]
  ·cases hc
 ·rename_i t k a t' k' b
  obtain ⟨⟨hi,rfl,rfl,hc⟩,rfl⟩:=ite_some h
  obtain ⟨d,hu,_,hd⟩:=isIface_spec hi
  obtain ⟨ms,rfl⟩:=hd rfl
  obtain ⟨d2,hd2⟩:=equal_twice T
  unfold intC at hc
  split at hc
  ·rename_i k2 i hut hit
   have hti:∀ w:World,(typeInfo t).run P w=.ok i w:=fun w=>by simp [typeInfo,hit]
   refine ⟨by simp [eqGuard],by simp [eqGuard],?_⟩
   rw [hd2]
   simp [Op.equalIn,run_underlying hu,run_underlying hut,hti,hc]
  ·cases hc
 ·cases h
theorem binOp_eql {T:Nat} {x y:Operand} {r:Bool} {u v:Value} (hn:eqvV P T x y u v=some r) (w:World):(binOp .eql T u v).run P w=.ok (.bool r) w:=by
 have:=(eqvV_run hn w).2.2
 unfold eqvV at hn
 split at hn <;> first | cases hn | simp [binOp,this]
theorem binOp_neq {T:Nat} {x y:Operand} {r:Bool} {u v:Value} (hn:eqvV P T x y u v=some r) (w:World):(binOp .neq T u v).run P w=.ok (.bool !r) w:=by
 have:=(eqvV_run hn w).2.2
 unfold eqvV at hn
 split at hn <;> first | cases hn | simp [binOp,this]
theorem binS_run {op:BinOp} {T:Nat} {x y:Operand} {u v:Value} {K:Value→Prop} (h:binS P op T x y u v K) :
  ∃ r,(∀ w',(do eqGuard op T x y u v; binOp op T u v:Sem Value).run P w'=.ok r w')∧K r:=by
 unfold binS at h
 split at h
 ·exact intS_run h
 ·rename_i K a b
  have hg:∀ (w':World),(eqGuard op T x y (.string a) (.string b)).run P w'=.ok () w':=by
   intro w'; unfold eqGuard; cases op <;> simp
  cases op <;> simp only [strS,gdS_iff] at h
  case add =>
   obtain ⟨hs,hk⟩:=h
   refine ⟨_,fun w'=>?_,hk⟩
   have:¬ (IntKind.i64.max < ((a.size+b.size:Nat):Int)):=by omega
   simp only [Sem.run_bind,hg,Result.andThen_ok,binOp,Op.stringOp]
   rw [if_neg (by simpa using this)]
   rfl
  all_goals first
   | exact h.elim
   | exact ⟨_,fun w'=>by simp [Sem.run_bind,hg,binOp,Op.stringOp],h⟩
 ·rename_i u v K hn1 hn2
  unfold eqS at h
  simp only [optS_iff] at h
  split at h
  ·obtain ⟨r,hr,hk⟩:=h
   exact ⟨_,fun w'=>by simp [Sem.run_bind,(eqvV_run hr w').1,binOp_eql hr],hk⟩
  ·obtain ⟨r,hr,hk⟩:=h
   exact ⟨_,fun w'=>by simp [Sem.run_bind,(eqvV_run hr w').2.1,binOp_neq hr],hk⟩
  ·cases h
theorem cnvS_run {s d:Nat} {v:Value} {K:Value→Prop} (h:cnvS P s d v K):∃ u,(∀ w',(convert s d v).run P w'=.ok u w')∧K u:=by
 unfold cnvS at h
 simp only [optS_iff,gdS_iff] at h
 split at h
 ·obtain ⟨k,hk,hs,hK⟩:=h
  refine ⟨_,fun w'=>?_,hK⟩
  unfold intKind at hk
  split at hk
  ·rename_i k' hu
   simp only [Option.some.injEq] at hk
   subst hk
   obtain ⟨ds,hds⟩:=Option.isSome_iff_exists.1 hs
   unfold convert
   simp only [Sem.run_bind,run_underlying hds,run_underlying hu,Result.andThen_ok]
   simp [Conv.intToInt]
  ·cases hk
 ·obtain ⟨h1,h2,hK⟩:=h
  refine ⟨_,fun w'=>?_,hK⟩
  unfold isStr at h1 h2
  split at h1
  ·rename_i hu1
   split at h2
   ·rename_i hu2
    unfold convert
    simp [Sem.run_bind,run_underlying hu1,run_underlying hu2]
   ·cases h2
  ·cases h1
 ·cases h
theorem lenS_run {T:Nat} {v:Value} {K:Value→Prop} (h:lenS P T v K) (tys:Array TypeId) (args:Array Value) (ht:tys[0]?=some T) (ha:args[0]?=some v) :
  ∃ u,(∀ w',(Builtin.len_ tys ty args).run P w'=.ok u w')∧K u:=by
 unfold lenS at h
 simp only [gdS_iff,isSl] at h
 split at h
 ·obtain ⟨h1,hk⟩:=h
  refine ⟨_,fun w'=>?_,hk⟩
  unfold isStr at h1
  split at h1
  ·rename_i hu
   simp [Builtin.len_,ht,ha,run_underlying hu,goInt]
  ·cases h1
 ·obtain ⟨h1,hk⟩:=h
  refine ⟨_,fun w'=>?_,hk⟩
  split at h1
  ·rename_i hu
   simp [Builtin.len_,ht,ha,run_underlying hu,goInt]
  ·cases h1
 ·cases h
theorem ext_alloc (w:World) (o:Obj):ExtH w (w.alloc o):=by
 intro b o' h
 have hlt:=(Array.getElem?_eq_some_iff.1 h).1
 show (w.heap.push o)[b]?=some o'
 rw [Array.getElem?_push,if_neg (by omega)]
 exact h
theorem length_rowOf (z:List Value):∀ n,(rowOf z n).length=n * z.length
 | 0=>by simp [rowOf]
 | n+1=>by simp [rowOf,length_rowOf z n,Nat.add_mul,Nat.add_comm]
theorem rowOf_at (z:List Value):∀ (n i:Nat),i < n * z.length→(rowOf z n)[i]?=z[i % z.length]?
 | 0,i,h=>by simp at h
 | n+1,i,h=>by
  simp only [rowOf]
  by_cases hi:i < z.length
  ·rw [List.getElem?_append_left hi,Nat.mod_eq_of_lt hi]
  ·have h1:z.length≤i:=by omega
   rw [List.getElem?_append_right h1,rowOf_at z n (i - z.length) (by rw [Nat.add_mul] at h; omega)]
   congr 1
   have:i=z.length+(i - z.length):=by omega
   rw [this,Nat.add_mod_left]
   congr 1; omega
theorem row_eq (z:Array Value) (n:Nat) (hz:0 < z.size):(Array.range (n * z.size)).map (fun i=>z[i % z.size]!)=(rowOf z.toList n).toArray:=by
 apply Array.ext_getElem?
 intro i
 by_cases hi:i < n * z.size
 ·have h2:=rowOf_at z.toList n i (by simpa using hi)
  have hm:i % z.size < z.size:=Nat.mod_lt _ hz
  simp only [Array.getElem?_map,List.getElem?_toArray,h2,Array.length_toList]
  rw [Array.getElem?_range,if_pos hi]
  simp [hm]
 ·rw [Array.getElem?_eq_none (by simpa using hi),Array.getElem?_eq_none (by simp [length_rowOf]; simpa using hi)]
theorem foldl_wrAt (o:Nat):∀ (l:List Value) (k:Nat) (cs:Array Value),(l.zipIdx k).foldl (fun cs (p:Value × Nat)=>cs.setIfInBounds (o+p.2) p.1) cs=wrAt cs (o+k) l
 | [],_,_=>rfl
 | v :: l,k,cs=>by
  simp only [List.zipIdx_cons,List.foldl_cons,wrAt]
  exact foldl_wrAt o l (k+1) _
theorem fill_eq (sz:Nat):∀ (parts:List (Nat × Value)) (cs r:Array Value),fillRow sz cs parts=some r→Instr.fill (fun i=>some (i * sz,sz)) cs parts=some r
 | [],cs,r,h=>h
 | (i,v) :: rest,cs,r,h=>by
  unfold fillRow at h
  split at h
  ·cases h
  ·rename_i hc
   simp only [Bool.or_eq_true,not_or,decide_eq_true_eq,bne_iff_ne,ne_eq] at hc
   simp only [Instr.fill]
   have h1:v.cells.size=sz:=by simpa using hc.1
   rw [if_neg (by simp only [Bool.or_eq_true,decide_eq_true_eq,bne_iff_ne,not_or]; rw [h1]; exact ⟨by simp,by simpa using hc.2⟩)]
   have h2:=foldl_wrAt (i * sz) v.cells.toList 0 cs
   have h3:v.cells.zipIdx.foldl (fun cs (x:Value × Nat)=>cs.setIfInBounds (i * sz+x.2) x.1) cs=wrAt cs (i * sz) v.cells.toList:=by
    rw [← Array.foldl_toList]
    simpa using h2
   have:=fill_eq sz rest _ _ h
   rw [← h3] at this
   exact this
theorem fillP_eq (pl:List (Nat × Nat)):∀ (parts:List (Nat × Value)) (cs r:Array Value),fillP pl cs parts=some r→Instr.fill (fun i=>pl[i]?) cs parts=some r
 | [],cs,r,h=>h
 | (i,v) :: rest,cs,r,h=>by
  unfold fillP at h
  split at h
  ·rename_i q hq
   split at h
   ·cases h
   ·rename_i hc
    simp only [Bool.or_eq_true,not_or,decide_eq_true_eq,bne_iff_ne,ne_eq] at hc
    simp only [Instr.fill,hq]
    have h1:v.cells.size=q.2:=by simpa using hc.1
    obtain ⟨q1,q2⟩:=q
    dsimp only at h1 hc h ⊢
    rw [if_neg (by simp only [Bool.or_eq_true,decide_eq_true_eq,bne_iff_ne,not_or]; rw [h1]; exact ⟨by simp,by simpa using hc.2⟩)]
    have h2:=foldl_wrAt q1 v.cells.toList 0 cs
    have h3:v.cells.zipIdx.foldl (fun cs (x:Value × Nat)=>cs.setIfInBounds (q1+x.2) x.1) cs=wrAt cs q1 v.cells.toList:=by
     rw [← Array.foldl_toList]
     simpa using h2
    have:=fillP_eq pl rest _ _ h
    rw [← h3] at this
    exact this
  ·cases h
theorem run_places {fs:List Field}:∀ {l:List (Nat × Nat)},(fs.mapM fun f=>(P.info? f.type).map fun i=>(f.offset,i.size))=some l →
  ∀ w,(fs.mapM fun f=>(do pure (f.offset,← sizeOf f.type):Sem (Nat × Nat))).run P w=.ok l w:=by
 induction fs with
 | nil=>intro l h w; simp at h; subst h; rfl
 | cons f fs ih =>
  intro l h w
  rw [List.mapM_cons] at h ⊢
  cases hi:P.info? f.type with
  | none=>rw [hi] at h; simp at h
  | some i =>
   rw [hi] at h
   simp only [Option.map_some,Option.bind_eq_bind,Option.bind_some] at h
   cases hr:(fs.mapM fun f=>(P.info? f.type).map fun i=>(f.offset,i.size)) with
   | none=>rw [hr] at h; simp at h
   | some r =>
    rw [hr] at h
    simp at h
    subst h
    have:=ih hr w
    simp [sizeOf,typeInfo,hi,this] at this ⊢
    simp [this]
theorem bldS_run {T:Nat} {parts:List (Nat × Value)} {K:Value→Prop} (h:bldS P T parts K):∃ v,(∀ w,(Instr.build T parts.toArray).run P w=.ok v w)∧K v:=by
 simp only [bldS,optS_iff] at h
 obtain ⟨⟨z,pl,sz⟩,hb,cs,hv,hk⟩:=h
 refine ⟨_,fun w=>?_,hk⟩
 unfold bldInfo at hb
 split at hb
 ·rename_i zv fs hz hu
  split at hb
  ·rename_i l hl
   simp only [Option.some.injEq,Prod.mk.injEq] at hb
   obtain ⟨rfl,rfl,rfl⟩:=hb
   simp only [bldV,if_true] at hv
   have hf:=fillP_eq l _ _ _ hv
   have hp:=run_places (P:=P) hl w
   have hp':(fs.mapM fun f=>(do pure (f.offset,← sizeOf f.type):Sem (Nat × Nat))).run P w=.ok l.toArray w:=by
    rw [Array.mapM_eq_mapM_toList]
    simp only [Sem.run_map,hp,Result.andThen_ok]
   have hf':Instr.fill (fun i=>l.toArray[i]?) zv.cells parts=some cs:=by
    have e:(fun (i:Nat)=>l.toArray[i]?)=fun (i:Nat)=>l[i]?:=by funext i; simp
    rw [e]; simpa using hf
   simp only [Instr.build,Sem.run_bind,zeroV_run hz,Result.andThen_ok,run_underlying hu,hp']
   have hf'':Instr.fill (fun x=>l.toArray[x]?) zv.cells parts.toArray.toList=some cs:=by simpa using hf'
   simp only [hf'']
   rfl
  ·cases hb
 ·rename_i zv n e hz hu
  split at hb
  ·rename_i i hi
   simp only [Option.some.injEq,Prod.mk.injEq] at hb
   obtain ⟨rfl,rfl,rfl⟩:=hb
   by_cases h0:i.size=0
   ·rw [bldV,if_pos h0] at hv
    cases parts with
    | nil =>
     simp only [fillP,Option.some.injEq] at hv
     subst hv
     simp [Instr.build,zeroV_run hz,run_underlying hu,sizeOf,typeInfo,hi,Instr.fill]
    | cons p r=>simp [fillP] at hv
   ·rw [bldV,if_neg h0] at hv
    have hf:=fill_eq i.size _ _ _ hv
    have hf'':Instr.fill (fun x=>some (x * i.size,i.size)) zv.cells parts.toArray.toList=some cs:=by simpa using hf
    simp only [Instr.build,Sem.run_bind,zeroV_run hz,Result.andThen_ok,run_underlying hu,sizeOf,typeInfo,run_program,hi,Sem.run_pure,hf'']
  ·cases hb
 ·cases hb
theorem bslS_run {T n:Nat} {parts:List (Nat × Value)} {K:Value→World→Prop} (h:bslS P T n parts w K) :
  ∃ v w',((Instr.buildSlice T n parts.toArray).run P w=.ok v w'∧ExtH w w')∧K v w':=by
 simp only [bslS,optS_iff,gdS_iff] at h
 obtain ⟨⟨e,sz,by_,z⟩,hs,hn,cs,hf,hk⟩:=h
 obtain ⟨i,zv,hu,hinf,hz,rfl,_,rfl,hzs,hpos⟩:=slInfo_spec hs
 refine ⟨_,_,⟨?_,ext_alloc _ _⟩,hk⟩
 dsimp only at hn hf hk
 have hf':=fill_eq i.size parts _ _ hf
 have hn':¬ (n * i.size > 2 ^ 24):=by omega
 by_cases hn0:n * i.size=0
 ·have hn1:n=0:=by
   rcases Nat.mul_eq_zero.1 hn0 with h | h
   ·exact h
   ·omega
  subst hn1
  simp only [rowOf] at hf'
  have er:∀ f:Nat→Value,(Array.range 0).map f=#[]:=fun f=>by simp
  simp [Instr.buildSlice,run_underlying hu,sizeOf,typeInfo,hinf,er,hf',newRow]
 ·have hrow:=row_eq zv.cells n (by omega)
  rw [hzs] at hrow
  have hrow':(Array.range (n * i.size)).map (fun x=>zv.cells[x % zv.cells.size]!)=(rowOf zv.cells.toList n).toArray:=by rw [hzs]; exact hrow
  simp only [Instr.buildSlice,Sem.run_bind,run_underlying hu,Result.andThen_ok,sizeOf,typeInfo,run_program,hinf,Sem.run_pure,if_neg hn',if_neg hn0,zeroValue,hz,hrow',hf']
  simp [newRow]
theorem i64_wrap {n:Int} (h0:0≤n) (h1:n≤9223372036854775807):IntKind.i64.wrap n=n:=by
 have hb:IntKind.i64.bits=64:=rfl
 have hs:IntKind.i64.signed=true:=rfl
 have hm:n % (2 ^ 64:Int)=n:=Int.emod_eq_of_lt h0 (by omega)
 simp only [IntKind.wrap,hb,hs,hm,Bool.true_and]
 rw [if_neg (by simp; omega)]
theorem mksS_run {T:Nat} {l c:Value} {K:Value→World→Prop} (h:mksS P T w l c K):∃ v w',((Instr.makeSlice T l c).run P w=.ok v w'∧ExtH w w')∧K v w':=by
 unfold mksS at h
 split at h
 ·rename_i K k1 l k2 c
  simp only [optS_iff,gdS_iff] at h
  obtain ⟨⟨e,sz,by_,z⟩,hs,⟨h0,h1,h2,h3⟩,hk⟩:=h
  dsimp only at h3 hk
  obtain ⟨i,zv,hu,hinf,hz,rfl,rfl,rfl,hzs,hpos⟩:=slInfo_spec hs
  refine ⟨_,_,⟨?_,ext_alloc _ _⟩,hk⟩
  have e1:=i64_wrap h0 (by omega)
  have e2:=i64_wrap (n:=c) (by omega) h2
  have a1:¬ c < 0:=by omega
  have a2:¬ (281474976710656 < (i.bytes:Int) * c):=by omega
  have a3:¬ l < 0:=by omega
  have a4:¬ c < l:=by omega
  by_cases hn0:c.toNat * i.size=0
  ·have hn1:c.toNat=0:=by
    rcases Nat.mul_eq_zero.1 hn0 with h | h
    ·exact h
    ·omega
   have er:∀ f:Nat→Value,(Array.range 0).map f=#[]:=fun f=>by simp
   simp [Instr.makeSlice,run_underlying hu,asInt,asIntOf,typeInfo,hinf,e1,e2,a1,a2,a3,a4,sizeOf,hn1,newRow,rowOf,er]
  ·have hrow:=row_eq zv.cells c.toNat (by omega)
   rw [hzs] at hrow
   have hrow':(Array.range (c.toNat * i.size)).map (fun x=>zv.cells[x % zv.cells.size]!)=(rowOf zv.cells.toList c.toNat).toArray:=by rw [hzs]; exact hrow
   have hb:(default:Value)=default:=rfl
   simp only [Instr.makeSlice,Sem.run_bind,run_underlying hu,Result.andThen_ok,asInt,asIntOf,Sem.run_pure,typeInfo,run_program,hinf,e1,e2]
   have t1:((decide (c < 0) || decide ((i.bytes:Int) * c > 2 ^ 48))=true)=False:=by
    simp only [Bool.or_eq_true,decide_eq_true_eq,eq_iff_iff,iff_false,not_or]; omega
   have t2:((decide (c < 0) || decide ((i.bytes:Int) * c > 2 ^ 48) || decide (l < 0) || decide (l > c))=true)=False:=by
    simp only [Bool.or_eq_true,decide_eq_true_eq,eq_iff_iff,iff_false,not_or]; omega
   simp only [t2,if_false,Sem.run_bind,run_askRoom,Sem.run_pure,Result.andThen_ok,sizeOf,typeInfo,run_program,hinf,if_neg hn0,zeroValue,hz,newRow,run_newObj,hrow']
   rfl
 ·cases h
theorem callS_run {f:Value} {args:List Value} {K:Value→World→Prop} (h:callS P w f args K):upon2 P K ((do let d ← Deferred.ofValue f args.toArray; invoke d.target d.args:Sem Next).run P w):=by
 unfold callS at h
 split at h
 ·rename_i args K f x y
  have e0:∀ l:List Value,(x.toList ++ l ++ y.toList).toArray=x ++ l.toArray ++ y:=fun l=>by apply Array.ext'; simp
  rcases h with ⟨he,hc⟩ | ⟨v,w',hr,hk⟩
  case inr =>
   rw [e0] at hr
   simp only [Deferred.ofValue,Sem.run_bind,Sem.run_pure,Result.andThen_ok,invoke,hr]
   exact hk
  unfold enterable at he
  split at he
  ·rename_i fn hf
   simp only [Bool.and_eq_true,bne_iff_ne,ne_eq] at he
   have hb:fn.body.isNone=false:=by
    cases hh:fn.body with
    | none=>rw [hh] at he; simp at he
    | some _=>rfl
   simp only [Deferred.ofValue,Sem.run_bind,Sem.run_pure,Result.andThen_ok,invoke,callFunc,run_program,hf,beq_iff_eq,he.2,if_false,hb,Bool.false_eq_true]
   simp only [upon2]
   have e:∀ l:List Value,(x.toList ++ l ++ y.toList).toArray=x ++ l.toArray ++ y:=fun l=>by apply Array.ext'; simp
   unfold callK at hc
   rw [e] at hc
   exact hc
  ·cases he
 ·cases h
theorem arr_map {α β:Type} (f:α→β) (a:Array α):(a.toList.map f).toArray=a.map f:=by
 rw [← Array.toList_map,Array.toArray_toList]
theorem map_pair (parts:Array (Nat × Operand)):(parts.map fun (i,x)=>(i,ρ.ev x))=(parts.toList.map fun (i,x)=>(i,ρ.ev x)).toArray:=(arr_map _ _).symm
theorem opS_sound {c:Nat} {op:Op} {K:Value→World→Prop} (h:opS P c op ty ρ w K):stepL P c op ty ρ w K:=by
 cases op
 case move x=>obtain ⟨rfl,h⟩:=h; exact ⟨_,fun w'=>by simp [LO.exec,execOp],h⟩
 case assign x=>obtain ⟨rfl,h⟩:=h; exact ⟨_,fun w'=>by simp [LO.exec,execOp],h⟩
 case pick b x y =>
  obtain ⟨rfl,h⟩:=h
  simp only [pickS] at h
  split at h
  ·rename_i t a b' K hb
   refine ⟨_,fun w'=>?_,h⟩
   cases t <;> simp [LO.exec,execOp,hb,asBool]
  ·cases h
 case build T parts =>
  obtain ⟨rfl,h⟩:=h
  obtain ⟨v,hv,h⟩:=bldS_run h
  refine ⟨v,fun w'=>?_,h⟩
  simp only [LO.exec,execOp,map_pair]
  simp [Sem.run_bind,hv]
 case nilCheck x =>
  obtain ⟨rfl,h⟩:=h
  simp only [nilS] at h
  split at h
  ·rename_i hb; exact ⟨_,fun w'=>by simp [LO.exec,execOp,hb],h⟩
  ·rename_i hb; exact ⟨_,fun w'=>by simp [LO.exec,execOp,hb],h⟩
  ·rename_i hb; exact ⟨_,fun w'=>by simp [LO.exec,execOp,hb],h⟩
  ·cases h
 case fieldAddr T x k =>
  obtain ⟨rfl,h⟩:=h
  obtain ⟨u,hu,hk⟩:=fldAS_run h
  exact ⟨u,fun w'=>by simp [LO.exec,execOp,hu],hk⟩
 case field T x k =>
  obtain ⟨rfl,h⟩:=h
  obtain ⟨u,hu,hk⟩:=fldS_run h
  exact ⟨u,fun w'=>by simp [LO.exec,execOp,hu],hk⟩
 case indexAddr T x i =>
  obtain ⟨rfl,h⟩:=h
  obtain ⟨u,hu,hk⟩:=idxAS_run h
  exact ⟨u,fun w'=>by simp [LO.exec,execOp,hu],hk⟩
 case index T x i =>
  obtain ⟨rfl,h⟩:=h
  obtain ⟨u,hu,hk⟩:=idxS_run h
  exact ⟨u,fun w'=>by simp [LO.exec,execOp,hu],hk⟩
 case extract x i =>
  obtain ⟨rfl,h⟩:=h
  unfold extS at h
  simp only [optS_iff] at h
  split at h
  ·rename_i hb
   obtain ⟨v,hv,hk⟩:=h
   exact ⟨v,fun w'=>by simp [LO.exec,execOp,hb,Instr.extract,hv],hk⟩
  ·cases h
 case unOp o T x =>
  obtain ⟨rfl,h⟩:=h
  simp only [unS] at h
  split at h
  ·rename_i hb; exact ⟨_,fun w'=>by simp [LO.exec,execOp,hb,Op.unary],h⟩
  ·rename_i hb; exact ⟨_,fun w'=>by simp [LO.exec,execOp,hb,Op.unary,Op.intArith],h⟩
  ·cases h
 case makeInterface T x =>
  obtain ⟨rfl,hi,h⟩:=h
  exact ⟨_,fun w'=>by simp [LO.exec,execOp,run_makeIface hi],h⟩
 case makeFunc fn a b =>
  obtain ⟨rfl,h⟩:=h
  refine ⟨_,fun w'=>?_,h⟩
  simp [LO.exec,execOp,Instr.makeFunc,arr_map]
 case slice T x lo hi mx =>
  obtain ⟨rfl,v,hv,h⟩:=h
  exact ⟨v,fun w'=>by simp [LO.exec,execOp,hv],h⟩
 case typeAssert x xT aT ok =>
  obtain ⟨rfl,h⟩:=h
  obtain ⟨u,hu,hk⟩:=asS_run h
  exact ⟨u,fun w'=>by simp [LO.exec,execOp,hu],hk⟩
 case binOp o T x y yT =>
  simp only [opS] at h
  split at h
  ·rename_i hc
   subst hc
   obtain ⟨v,hv,hk⟩:=h
   exact ⟨v,fun w' hw'=>by simp only [LO.exec,execOp]; rw [Sem.run_bind,hv w' hw']; rfl,hk⟩
  ·obtain ⟨rfl,h⟩:=h
   obtain ⟨u,hu,hk⟩:=binS_run h
   exact ⟨u,fun w'=>by simp only [LO.exec,execOp]; rw [Sem.run_bind,hu w']; rfl,hk⟩
 case convert s d x =>
  simp only [opS] at h
  split at h
  ·rename_i hc
   subst hc
   obtain ⟨v,w',hv,hk⟩:=h
   simp only [stepL,step2,LO.exec,execOp,Sem.run_bind,hv,Result.andThen_ok]
   exact hk
  ·obtain ⟨rfl,h⟩:=h
   obtain ⟨u,hu,hk⟩:=cnvS_run h
   exact ⟨u,fun w'=>by simp [LO.exec,execOp,hu],hk⟩
 case load T a =>
  obtain ⟨rfl,h⟩:=h
  obtain ⟨u,hu,hk⟩:=ldS_run h
  exact ⟨u,fun w' hw'=>by simp [LO.exec,execOp,hu w' hw'],hk⟩
 case lookup T m k ok =>
  obtain ⟨rfl,v,hv,hk⟩:=h
  exact ⟨v,fun w' hw'=>by simp [LO.exec,execOp,hv w' hw'],hk⟩
 case box T x =>
  obtain ⟨rfl,h⟩:=h
  refine ⟨_,_,⟨?_,ext_alloc _ _⟩,h⟩
  simp [LO.exec,execOp,Instr.box,newVar,newRow]
 case alloc T =>
  obtain ⟨rfl,h⟩:=h
  simp only [newS,optS_iff] at h
  obtain ⟨z,hz,h⟩:=h
  refine ⟨_,_,⟨?_,ext_alloc _ _⟩,h⟩
  simp [LO.exec,execOp,Instr.alloc,zeroV_run hz,newVar,newRow]
 case buildSlice T n parts =>
  obtain ⟨rfl,h⟩:=h
  obtain ⟨v,w',⟨hr,he⟩,hk⟩:=bslS_run h
  refine ⟨v,w',⟨?_,he⟩,hk⟩
  simp only [LO.exec,execOp,map_pair]
  simp [Sem.run_bind,hr]
 case makeMap T r =>
  cases r with
  | none =>
   obtain ⟨rfl,h⟩:=h
   refine ⟨_,_,⟨?_,ext_alloc _ _⟩,h⟩
   simp [LO.exec,execOp,Instr.makeMap]
  | some r=>exact h
 case makeSlice T l k =>
  obtain ⟨rfl,h⟩:=h
  obtain ⟨v,w',⟨hr,he⟩,hk⟩:=mksS_run h
  refine ⟨v,w',⟨?_,he⟩,hk⟩
  simp [LO.exec,execOp,hr]
 case store T a x =>
  obtain ⟨rfl,h⟩:=h
  obtain ⟨w',hr,hk⟩:=stS_run h
  simp only [stepL,step2,LO.exec,execOp,Sem.run_bind,hr,Result.andThen_ok]
  exact hk
 case mapUpdate T m k x =>
  obtain ⟨rfl,w',hr,hk⟩:=h
  simp only [stepL,step2,LO.exec,execOp,Sem.run_bind,hr,Result.andThen_ok]
  exact hk
 case mapEntry T m k =>
  obtain ⟨rfl,v,w',hr,hk⟩:=h
  simp only [stepL,step2,LO.exec,execOp,Sem.run_bind,hr,Result.andThen_ok]
  exact hk
 case entryStore T m s x =>
  obtain ⟨rfl,w',hr,hk⟩:=h
  simp only [stepL,step2,LO.exec,execOp,Sem.run_bind,hr,Result.andThen_ok]
  exact hk
 case range T x =>
  obtain ⟨rfl,v,w',hr,hk⟩:=h
  simp only [stepL,step2,LO.exec,execOp,Sem.run_bind,hr,Result.andThen_ok]
  exact hk
 case next x s =>
  obtain ⟨rfl,v,w',hr,hk⟩:=h
  simp only [stepL,step2,LO.exec,execOp,Sem.run_bind,hr,Result.andThen_ok]
  exact hk
 case entry x =>
  obtain ⟨rfl,v,w',hr,hk⟩:=h
  simp only [stepL,step2,LO.exec,execOp,Sem.run_bind,hr,Result.andThen_ok]
  exact hk
 case call cl =>
  obtain ⟨callee,args,tys⟩:=cl
  cases callee with
  | value f =>
   obtain ⟨rfl,h⟩:=h
   have:=callS_run h
   rw [arr_map] at this
   simp only [stepL,step2,LO.exec,execOp,resolve]
   simpa using this
  | invoke r m=>exact h
  | builtin b =>
   cases b <;> try exact h
   case len =>
    simp only [opS] at h
    split at h
    ·rename_i hc
     subst hc
     obtain ⟨v,hv,hk⟩:=h
     exact ⟨v,fun w' hw'=>by simp [LO.exec,execOp,resolve,invoke,builtin,hv w' hw'],hk⟩
    ·obtain ⟨rfl,h⟩:=h
     simp only [optS_iff] at h
     obtain ⟨T,ht,x,hx,h⟩:=h
     obtain ⟨u,hu,hk⟩:=lenS_run (ty:=ty) h tys (args.map ρ.ev) ht (by simp [hx])
     exact ⟨u,fun w'=>by simp [LO.exec,execOp,resolve,invoke,builtin,hu],hk⟩
   case min =>
    obtain ⟨rfl,h⟩:=h
    obtain ⟨u,hu,hk⟩:=mmS_run (P:=P) (ty:=ty) h tys
    refine ⟨u,fun w'=>?_,hk⟩
    have:=hu w'
    simp only [Bool.false_eq_true,if_false] at this
    have e:(args.toList.map ρ.ev).toArray=args.map ρ.ev:=arr_map _ _
    rw [e] at this
    simp only [LO.exec,execOp,resolve,Sem.run_bind,Sem.run_pure,Result.andThen_ok,invoke,builtin,this]
   case max =>
    obtain ⟨rfl,h⟩:=h
    obtain ⟨u,hu,hk⟩:=mmS_run (P:=P) (ty:=ty) h tys
    refine ⟨u,fun w'=>?_,hk⟩
    have:=hu w'
    simp only [if_true] at this
    have e:(args.toList.map ρ.ev).toArray=args.map ρ.ev:=arr_map _ _
    rw [e] at this
    simp only [LO.exec,execOp,resolve,Sem.run_bind,Sem.run_pure,Result.andThen_ok,invoke,builtin,this]
   case append =>
    obtain ⟨rfl,v,w',hr,hk⟩:=h
    simp only [stepL,step2,LO.exec,execOp,resolve,Sem.run_bind,Sem.run_pure,Result.andThen_ok,invoke,builtin]
    have e:(args.toList.map ρ.ev).toArray=args.map ρ.ev:=arr_map _ _
    rw [e] at hr
    simp only [hr,Result.andThen_ok]
    exact hk
   case copy =>
    obtain ⟨rfl,v,w',hr,hk⟩:=h
    simp only [stepL,step2,LO.exec,execOp,resolve,Sem.run_bind,Sem.run_pure,Result.andThen_ok,invoke,builtin]
    have e:(args.toList.map ρ.ev).toArray=args.map ρ.ev:=arr_map _ _
    rw [e] at hr
    simp only [hr,Result.andThen_ok]
    exact hk
   case delete =>
    obtain ⟨rfl,v,w',hr,hk⟩:=h
    simp only [stepL,step2,LO.exec,execOp,resolve,Sem.run_bind,Sem.run_pure,Result.andThen_ok,invoke,builtin]
    have e:(args.toList.map ρ.ev).toArray=args.map ρ.ev:=arr_map _ _
    rw [e] at hr
    simp only [hr,Result.andThen_ok]
    exact hk
 all_goals exact h
end
section
variable {P:Program} {ρ:Env} {w:World} {ty:TypeId}
theorem optS_mono {α:Type} {o:Option α} {K K':α→Prop} (hK:∀ v,K v→K' v) (h:optS o K):optS o K':=by
 cases o with
 | none=>exact h
 | some x=>exact hK _ h
section
variable {K K':Value→Prop} (hK:∀ v,K v→K' v)
include hK
theorem pickS_mono {a b c:Value} (h:pickS a b c K):pickS a b c K':=by
 unfold pickS at *; split at h
 ·exact hK _ h
 ·cases h
theorem nilS_mono {a:Value} (h:nilS a K):nilS a K':=by
 unfold nilS at *; split at h
 ·exact hK _ h
 ·exact hK _ h
 ·exact hK _ h
 ·cases h
theorem fldAS_mono {T k:Nat} {a:Value} (h:fldAS P T k a K):fldAS P T k a K':=by
 unfold fldAS at *; split at h
 ·exact optS_mono (fun _=>hK _) h
 ·cases h
theorem fldS_mono {T k:Nat} {a:Value} (h:fldS P T k a K):fldS P T k a K':=by
 unfold fldS at *; split at h
 ·exact optS_mono (fun _=>optS_mono hK) h
 ·cases h
theorem idxAS_mono {T:Nat} {a b:Value} (h:idxAS P T a b K):idxAS P T a b K':=by
 unfold idxAS at *; split at h
 ·exact optS_mono (fun _=>And.imp_right (hK _)) h
 ·exact optS_mono (fun _=>And.imp_right (hK _)) h
 ·cases h
theorem idxS_mono {T:Nat} {a b:Value} (h:idxS P T a b K):idxS P T a b K':=by
 unfold idxS at *; split at h
 ·exact optS_mono (fun _=>And.imp_right (optS_mono hK)) h
 ·exact ⟨h.1,h.2.1,optS_mono (fun _=>hK _) h.2.2⟩
 ·cases h
theorem extS_mono {a:Value} {i:Nat} (h:extS a i K):extS a i K':=by
 unfold extS at *; split at h
 ·exact optS_mono hK h
 ·cases h
theorem unS_mono {o:UnOp} {a:Value} (h:unS o a K):unS o a K':=by
 unfold unS at *; split at h
 ·exact hK _ h
 ·exact hK _ h
 ·cases h
theorem asS_mono {x a:Nat} {ok:Bool} {v:Value} (h:asS P x a ok v K):asS P x a ok v K':=by
 unfold asS at *; split at h
 ·refine ⟨h.1,?_⟩
  have h2:=h.2
  split at h2
  ·rename_i hc; rw [if_pos hc]; exact hK _ h2
  ·rename_i hc; rw [if_neg hc]; exact ⟨h2.1,optS_mono (fun _=>hK _) h2.2⟩
 ·exact ⟨h.1,h.2.1,optS_mono (fun _=>hK _) h.2.2⟩
 ·cases h
theorem intS_mono {op:BinOp} {k k':IntKind} {a b:Int} (h:intS op k a k' b K):intS op k a k' b K':=by
 cases op <;> simp only [intS,gdS_iff] at h ⊢
 case quo=>exact ⟨h.1,h.2.1,hK _ h.2.2⟩
 case rem=>exact ⟨h.1,h.2.1,hK _ h.2.2⟩
 all_goals exact ⟨h.1,hK _ h.2⟩
theorem binS_mono {op:BinOp} {T:Nat} {x y:Operand} {u v:Value} (h:binS P op T x y u v K):binS P op T x y u v K':=by
 unfold binS at *
 split at h
 ·exact intS_mono hK h
 ·cases op <;> simp only [strS,gdS_iff] at h ⊢
  case add=>exact ⟨h.1,hK _ h.2⟩
  all_goals first | exact h.elim | exact hK _ h
 ·unfold eqS at *
  split at h
  ·exact optS_mono (fun _=>hK _) h
  ·exact optS_mono (fun _=>hK _) h
  ·cases h
theorem cnvS_mono {s d:Nat} {v:Value} (h:cnvS P s d v K):cnvS P s d v K':=by
 unfold cnvS at *; split at h
 ·exact optS_mono (fun _=>And.imp_right (hK _)) h
 ·exact ⟨h.1,h.2.1,hK _ h.2.2⟩
 ·cases h
theorem lenS_mono {T:Nat} {v:Value} (h:lenS P T v K):lenS P T v K':=by
 unfold lenS at *; split at h
 ·exact ⟨h.1,hK _ h.2⟩
 ·exact ⟨h.1,hK _ h.2⟩
 ·cases h
theorem mmI_mono {isMax:Bool} {k:IntKind}:∀ {l:List Value} {x:Int},mmI isMax k x l K→mmI isMax k x l K'
 | [],_,h=>hK _ h
 | .int _ _ :: l,_,h=>mmI_mono (l:=l) h
 | .bool _ :: _,_,h | .float .. :: _,_,h | .complex .. :: _,_,h | .string _ :: _,_,h | .pointer _ :: _,_,h | .slice .. :: _,_,h | .map _ :: _,_,h | .chan _ :: _,_,h
 | .func .. :: _,_,h | .nilFunc :: _,_,h | .iface .. :: _,_,h | .nilIface :: _,_,h | .agg _ :: _,_,h | .tuple _ :: _,_,h=>h.elim
theorem mmS_mono {isMax:Bool} {l:List Value} (h:mmS isMax l K):mmS isMax l K':=by
 unfold mmS at *; split at h
 ·exact mmI_mono hK h
 ·cases h
theorem ldS_mono {T:Nat} {v:Value} (h:ldS P T w v K):ldS P T w v K':=by
 unfold ldS ldK at *; split at h
 ·split at h
  ·exact optS_mono hK h
  ·exact optS_mono (fun _=>hK _) h
  ·cases h
 ·cases h
theorem bldS_mono {T:Nat} {parts:List (Nat × Value)} (h:bldS P T parts K):bldS P T parts K':=optS_mono (fun _=>optS_mono fun _=>hK _) h
theorem rdS_mono {s:Sem Value} (h:rdS P s w K):rdS P s w K':=by
 obtain ⟨v,h1,h2⟩:=h; exact ⟨v,h1,hK _ h2⟩
end
theorem stS_mono {K K':World→Prop} (hK:∀ v,K v→K' v) {T:Nat} {v x:Value} (h:stS P T w v x K):stS P T w v x K':=by
 unfold stS stC at *; split at h
 ·exact ⟨h.1,optS_mono (fun _=>And.imp_right (hK _)) h.2⟩
 ·cases h
theorem efuS_mono {K K':World→Prop} (hK:∀ v,K v→K' v) {s:Sem Unit} (h:efuS P s w K):efuS P s w K':=by
 obtain ⟨w',h1,h2⟩:=h; exact ⟨w',h1,hK _ h2⟩
theorem upon2_mono {K K':Value→World→Prop} (h:∀ v w,K v w→K' v w) {r:Result Next} (hh:upon2 P K r):upon2 P K' r:=by
 unfold upon2 at *
 cases r with
 | ok n w' =>
  cases n <;> simp only at hh ⊢
  case value v=>exact h _ _ hh
  case skip=>exact h _ _ hh
  case enter f args=>exact hh.mono fun e w'' ⟨v,he,hk⟩=>⟨v,he,h _ _ hk⟩
 | halt x w'=>simp only at hh
theorem stepL_mono {c:Nat} {op:Op} {ty:TypeId} {ρ:Env} {w:World} {K K':Value→World→Prop} (h:∀ v w,K v w→K' v w) (hh:stepL P c op ty ρ w K):stepL P c op ty ρ w K':=by
 unfold stepL at *
 split at hh
 ·obtain ⟨v,hv,hk⟩:=hh; exact ⟨v,hv,h _ _ hk⟩
 ·obtain ⟨v,hv,hk⟩:=hh; exact ⟨v,hv,h _ _ hk⟩
 ·obtain ⟨v,w',hv,hk⟩:=hh; exact ⟨v,w',hv,h _ _ hk⟩
 ·exact upon2_mono h hh
theorem mksS_mono {K K':Value→World→Prop} (hK:∀ v w,K v w→K' v w) {T:Nat} {l c:Value} (h:mksS P T w l c K):mksS P T w l c K':=by
 unfold mksS at *
 split at h
 ·exact optS_mono (fun _=>And.imp_right (hK _ _)) h
 ·cases h
theorem callS_mono {K K':Value→World→Prop} (hK:∀ v w,K v w→K' v w) {f:Value} {args:List Value} (h:callS P w f args K):callS P w f args K':=by
 unfold callS at *
 split at h
 ·rcases h with h | ⟨v,w',hr,hk⟩
  ·exact .inl ⟨h.1,h.2.mono fun e w'' ⟨v,he,hk⟩=>⟨v,he,hK _ _ hk⟩⟩
  ·exact .inr ⟨v,w',hr,hK _ _ hk⟩
 ·cases h
theorem opS_mono {c:Nat} {op:Op} {K K':Value→World→Prop} (hK:∀ v w,K v w→K' v w) (h:opS P c op ty ρ w K):opS P c op ty ρ w K':=by
 cases op
 case move x=>exact ⟨h.1,hK _ _ h.2⟩
 case assign x=>exact ⟨h.1,hK _ _ h.2⟩
 case pick b x y=>exact ⟨h.1,pickS_mono (fun v=>hK v w) h.2⟩
 case build T parts=>exact ⟨h.1,bldS_mono (fun v=>hK v w) h.2⟩
 case nilCheck x=>exact ⟨h.1,nilS_mono (fun v=>hK v w) h.2⟩
 case fieldAddr T x k=>exact ⟨h.1,fldAS_mono (fun v=>hK v w) h.2⟩
 case field T x k=>exact ⟨h.1,fldS_mono (fun v=>hK v w) h.2⟩
 case indexAddr T x i=>exact ⟨h.1,idxAS_mono (fun v=>hK v w) h.2⟩
 case index T x i=>exact ⟨h.1,idxS_mono (fun v=>hK v w) h.2⟩
 case extract x i=>exact ⟨h.1,extS_mono (fun v=>hK v w) h.2⟩
 case unOp o T x=>exact ⟨h.1,unS_mono (fun v=>hK v w) h.2⟩
 case makeInterface T x=>exact ⟨h.1,h.2.1,hK _ _ h.2.2⟩
 case makeFunc fn a b=>exact ⟨h.1,hK _ _ h.2⟩
 case slice T x lo hi mx=>obtain ⟨h0,v,h1,h2⟩:=h; exact ⟨h0,v,h1,hK _ _ h2⟩
 case typeAssert x xT aT ok=>exact ⟨h.1,asS_mono (fun v=>hK v w) h.2⟩
 case binOp o T x y yT =>
  simp only [opS] at h ⊢
  split at h
  ·rename_i hc; rw [if_pos hc]; exact rdS_mono (fun v=>hK v w) h
  ·rename_i hc; rw [if_neg hc]; exact ⟨h.1,binS_mono (fun v=>hK v w) h.2⟩
 case convert s d x =>
  simp only [opS] at h ⊢
  split at h
  ·rename_i hc; rw [if_pos hc]; obtain ⟨v,w',h1,h2⟩:=h; exact ⟨v,w',h1,hK _ _ h2⟩
  ·rename_i hc; rw [if_neg hc]; exact ⟨h.1,cnvS_mono (fun v=>hK v w) h.2⟩
 case load T a=>exact ⟨h.1,ldS_mono (fun v=>hK v w) h.2⟩
 case lookup T m k ok=>exact ⟨h.1,rdS_mono (fun v=>hK v w) h.2⟩
 case box T x=>exact ⟨h.1,hK _ _ h.2⟩
 case alloc T=>exact ⟨h.1,optS_mono (fun _=>hK _ _) h.2⟩
 case buildSlice T n parts=>exact ⟨h.1,optS_mono (fun _=>And.imp_right (optS_mono fun _=>hK _ _)) h.2⟩
 case makeMap T r =>
  cases r with
  | none=>exact ⟨h.1,hK _ _ h.2⟩
  | some r=>exact stepL_mono hK h
 case makeSlice T l k =>
  exact ⟨h.1,mksS_mono hK h.2⟩
 case store T a x=>exact ⟨h.1,stS_mono (fun w'=>hK _ w') h.2⟩
 case mapUpdate T m k x=>exact ⟨h.1,efuS_mono (fun w'=>hK _ w') h.2⟩
 case mapEntry T m k=>obtain ⟨h0,v,w',h1,h2⟩:=h; exact ⟨h0,v,w',h1,hK _ _ h2⟩
 case entryStore T m s x=>exact ⟨h.1,efuS_mono (fun w'=>hK _ w') h.2⟩
 case range T x=>obtain ⟨h0,v,w',h1,h2⟩:=h; exact ⟨h0,v,w',h1,hK _ _ h2⟩
 case next x s=>obtain ⟨h0,v,w',h1,h2⟩:=h; exact ⟨h0,v,w',h1,hK _ _ h2⟩
 case entry x=>obtain ⟨h0,v,w',h1,h2⟩:=h; exact ⟨h0,v,w',h1,hK _ _ h2⟩
 case call cl =>
  obtain ⟨callee,args,tys⟩:=cl
  cases callee with
  | value f =>
   exact ⟨h.1,callS_mono hK h.2⟩
  | invoke r m=>exact stepL_mono hK h
  | builtin b =>
   cases b <;> try exact stepL_mono hK h
   case len =>
    simp only [opS] at h ⊢
    split at h
    ·rename_i hc; rw [if_pos hc]; exact rdS_mono (fun v=>hK v w) h
    ·rename_i hc; rw [if_neg hc]; exact ⟨h.1,optS_mono (fun _=>optS_mono fun _=>lenS_mono (fun v=>hK v w)) h.2⟩
   case min=>exact ⟨h.1,mmS_mono (fun v=>hK v w) h.2⟩
   case max=>exact ⟨h.1,mmS_mono (fun v=>hK v w) h.2⟩
   case append=>obtain ⟨h0,v,w',h1,h2⟩:=h; exact ⟨h0,v,w',h1,hK _ _ h2⟩
   case copy=>obtain ⟨h0,v,w',h1,h2⟩:=h; exact ⟨h0,v,w',h1,hK _ _ h2⟩
   case delete=>obtain ⟨h0,v,w',h1,h2⟩:=h; exact ⟨h0,v,w',h1,hK _ _ h2⟩
 all_goals exact stepL_mono hK h
end
end Go.W
end
