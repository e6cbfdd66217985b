/-
  Parts of the proof of this claim's statement; no conditions beyond those each theorem names.
-/
import Derived.Test.YtolkjbmcindhjaaGreatPk01
import Derived.Laws.Sem
import Derived.Laws.World
import Derived.Laws.Entries
import Derived.Laws.Cells
set_option maxRecDepth 100000
set_option linter.unusedSimpArgs false
set_option linter.unusedVariables false
set_option linter.unusedSectionVars false
set_option maxHeartbeats 8000000
namespace Go.W
section
open Go
abbrev Env:=Nat->Value
def Env.set(ρ:Env)(d:Nat)(v:Value):Env:=fun t=>if t=d then v else ρ t
def Env.put(ρ:Env):Option Nat->Value->Env
 |some d,v=>ρ.set d v
 |none,_=>ρ
def Env.ev(ρ:Env):Operand->Value
 |.tmp t=>ρ t
 |.const v=>v
 |.global g=>.pointer (some ⟨g,0,none⟩)
 |.func f=>.func (.func f) #[] #[]
def Env.merge(ρ:Env)(ρ':Env):List Nat->Env
 |[]=>ρ
 |t::l=>(ρ.merge ρ' l).set t (ρ' t)
def Env.args(l:List Value):Env:=fun t=>l.getD t undef
def zCg(P:Program)(T k:Nat):Option Nat :=
 match P.underlying T with
 |some (.struct fs)=>match fs[k]? with
  |some f=>match P.info? f.type with
   |some i=>if i.size=0 then none else some f.offset
   |none=>none
  |none=>none
 |_=>none
def zAa(P:Program)(T:Nat):Option (Option Nat) :=
 match P.underlying T,P.info? T with
 |some (.struct _),some i=>some (some i.size)
 |some (.array ..),some i=>some (some i.size)
 |some _,some i=>if i.size=1 then some none else none
 |_,_=>none
def zn(P:Program)(T:Nat):Option (Nat×Nat×Nat×List Value) :=
 match P.underlying T with
 |some (.slice e)=>match P.info? e with
  |some i=>match i.zero with
   |some z=>if z.cells.size=i.size/\0<i.size then some (e,i.size,i.bytes,z.cells.toList) else none
   |none=>none
  |none=>none
 |_=>none
def zC8(P:Program)(T:Nat):Option Value:=match P.info? T with
 |some i=>i.zero
 |none=>none
def zq(P:Program)(T:Nat):Option Bool:=match P.underlying T with
 |some (.interface _)=>some true
 |some _=>some false
 |none=>none
def zE5(P:Program)(T:Nat):Option IntKind:=match P.underlying T with
 |some (.int k)=>some k
 |_=>none
def zFl(P:Program)(T:Nat):Bool:=match P.underlying T with
 |some .string=>true
 |_=>false
def zG8(P:Program)(T:Nat):Option (Nat×Nat×Bool):=match P.underlying T with
 |some (.array n e)=>match P.info? e,P.underlying e with
  |some i,some (.struct _)=>some (n,i.size,true)
  |some i,some (.array ..)=>some (n,i.size,true)
  |some i,some _=>some (n,i.size,false)
  |_,_=>none
 |_=>none
def zE(P:Program)(f:Nat):Bool:=match P.funcs[f]? with
 | some fn => fn.body.isSome && fn.name != "runtime.NumGoroutine"
 |none=>false
def _root_.Go.World.setB(w:World)(b:Nat)(o:Obj):World:={ w with heap:=w.heap.setIfInBounds b o }
def zBh(c:Array Value)(o:Nat):List Value->Array Value
 |[]=>c
 |v::vs=>zBh (c.setIfInBounds o v) (o+1) vs
def zAn:Value->Bool
 |.agg _|.tuple _=>false
 |_=>true
def zCj{α:Type}:Option α->(α->Prop)->Prop
 |some x,K=>K x
 |none,_=>False
def gdS(p A:Prop):Prop:=p/\A
theorem zAE{α:Type}{o:Option α}{K:α->Prop}:zCj o K<->∃x,o=some x/\K x:=by
 cases o<;>simp[zCj]
theorem zAi{p A:Prop}:gdS p A<->p/\A:=Iff.rfl
def zLH:Value->Value->Value->(Value->Prop)->Prop
 |.bool t,a,b,K=>K (if t then a else b)
 |_,_,_,_=>False
def zUI:Value->(Value->Prop)->Prop
 |.pointer (some a),K=>K (.pointer (some a))
 |.func (.func f) x y,K=>K (.func (.func f) x y)
 |.iface t v,K=>K (.iface t v)
 |_,_=>False
def zI2(P:Program)(T k:Nat):Value->(Value->Prop)->Prop
 |.pointer (some a),K=>zCj (zCg P T k) fun o=>K (.pointer (some (a.add o)))
 |_,_=>False
def zLI(isA:Option (Option Nat))(cs:Array Value)(off:Nat):Option Value :=
 match isA with
 |some none=>cs[off]?
 |some (some n)=>some (.agg (cs.extract off (off+n)))
 |none=>none
def zDl(P:Program)(T k:Nat):Option (Option (Option Nat)×Nat) :=
 match P.underlying T with
 |some (.struct fs)=>match fs[k]? with
  |some f=>some (zAa P f.type,f.offset)
  |none=>none
 |_=>none
def zTG(P:Program)(T k:Nat):Value->(Value->Prop)->Prop
 |.agg cs,K=>zCj (zDl P T k) fun q=>zCj (zLI q.1 cs q.2) K
 |_,_=>False
def zIx(P:Program)(T:Nat):Value->Value->(Value->Prop)->Prop
 |.slice (some a) len _,.int _ i,K=>zCj (zn P T) fun q=>gdS (0<=i/\i<len) (K (.pointer (some (a.add (i.toNat*q.2.1)))))
 |.pointer (some a),.int _ i,K=>zCj (zG8 P T) fun q=>gdS (0<=i/\i<q.1) (K (.pointer (some (a.add (i.toNat*q.2.1)))))
 |_,_,_=>False
def zG7(sz:Nat)(g:Bool)(cs:Array Value)(i:Nat):Option Value:=if g then some (.agg (cs.extract (i*sz) (i*sz+sz))) else cs[i*sz]?
def zTB(P:Program)(T:Nat):Value->Value->(Value->Prop)->Prop
 |.agg cs,.int _ i,K=>zCj (zG8 P T) fun q=>gdS (0<=i/\i<q.1) (zCj (zG7 q.2.1 q.2.2 cs i.toNat) K)
 |.string s,.int _ i,K=>gdS (zFl P T=true) (gdS (0<=i) (zCj (s[i.toNat]?) fun b=>K (.int .u8 b.toNat)))
 |_,_,_=>False
def zCZ:Value->Nat->(Value->Prop)->Prop
 |.tuple vs,i,K=>zCj (vs[i]?) K
 |_,_,_=>False
def unS:UnOp->Value->(Value->Prop)->Prop
 |.not,.bool b,K=>K (.bool !b)
 |.neg,.int k n,K=>K (.int k (k.wrap (0-n)))
 |_,_,_=>False
def asS(P:Program)(xT aT:Nat)(ok:Bool):Value->(Value->Prop)->Prop
 |.iface t v,K=>gdS (zq P aT=some false) (if t=aT then K (if ok then .tuple #[v,.bool true] else v) else gdS (ok=true) (zCj (zC8 P aT) fun z=>K (.tuple #[z,.bool false])))
 |.nilIface,K=>gdS (zq P aT=some false) (gdS (ok=true) (zCj (zC8 P aT) fun z=>K (.tuple #[z,.bool false])))
 |_,_=>False
def zHE(op:BinOp)(k:IntKind)(a:Int)(k':IntKind)(b:Int)(K:Value->Prop):Prop :=
 match op with
 |.shl=>gdS (0<=b) (K (.int k (k.wrap (a*2^(min b.toNat k.bits)))))
 |.shr=>gdS (0<=b) (K (.int k (a.fdiv (2^(min b.toNat k.bits)))))
 |.add=>gdS (k=k') (K (.int k (k.wrap (a+b))))
 |.sub=>gdS (k=k') (K (.int k (k.wrap (a-b))))
 |.mul=>gdS (k=k') (K (.int k (k.wrap (a*b))))
 |.quo=>gdS (k=k') (gdS (b≠0) (K (.int k (k.wrap (a.tdiv b)))))
 |.rem=>gdS (k=k') (gdS (b≠0) (K (.int k (a.tmod b))))
 |.and=>gdS (k=k') (K (.int k (k.wrap (BitVec.ofInt k.bits a &&& BitVec.ofInt k.bits b).toNat)))
 |.or=>gdS (k=k') (K (.int k (k.wrap (BitVec.ofInt k.bits a ||| BitVec.ofInt k.bits b).toNat)))
 |.xor=>gdS (k=k') (K (.int k (k.wrap (BitVec.ofInt k.bits a ^^^ BitVec.ofInt k.bits b).toNat)))
 |.andNot=>gdS (k=k') (K (.int k (k.wrap (BitVec.ofInt k.bits a &&& ~~~BitVec.ofInt k.bits b).toNat)))
 |.eql=>gdS (k=k') (K (.bool (a==b)))
 |.neq=>gdS (k=k') (K (.bool (a != b)))
 |.lss=>gdS (k=k') (K (.bool (decide (a<b))))
 |.leq=>gdS (k=k') (K (.bool (decide (a<=b))))
 |.gtr=>gdS (k=k') (K (.bool (decide (a > b))))
 |.geq=>gdS (k=k') (K (.bool (decide (a ≥ b))))
def isC:Operand->Bool
 |.const _=>true
 |_=>false
def zGq(P:Program)(T:Nat):Bool:=match P.underlying T with
 |some .bool=>true
 |_=>false
def zHu(P:Program)(T:Nat):Bool:=match P.underlying T with
 |some (.pointer _)=>true
 |_=>false
def zRL(P:Program)(T:Nat):Bool:=match P.underlying T with
 |some (.map ..)=>true
 |_=>false
def zGp(P:Program)(T:Nat):Bool:=match P.underlying T with
 |some (.slice _)=>true
 |_=>false
def intC(P:Program)(t:Nat):Bool:=match P.underlying t,P.info? t with
 |some (.int _),some i=>i.comparable
 |_,_=>false
def zH1(P:Program)(T:Nat)(x y:Operand):Value->Value->Option Bool
 |.bool a,.bool b=>if zGq P T=true then some (a==b) else none
 |.nilIface,.nilIface=>if zq P T=some true/\(isC x||isC y) then some true else none
 |.iface _ _,.nilIface=>if zq P T=some true then some false else none
 |.nilIface,.iface _ _=>if zq P T=some true then some false else none
 |.pointer a,.pointer none=>if zHu P T=true then some a.isNone else none
 |.slice a _ _,.slice none _ _=>if zGp P T=true then some a.isNone else none
 |.map a,.map none=>if zRL P T=true then some a.isNone else none
 |.iface t (.int k a),.iface t' (.int k' b)=>if zq P T=some true/\t=t'/\k=k'/\intC P t=true then some (a==b) else none
 |_,_=>none
def strS(op:BinOp)(a b:ByteArray)(K:Value->Prop):Prop :=
 match op with
 |.eql=>K (.bool (a.toList==b.toList))
 |.neq=>K (.bool !(a.toList==b.toList))
 |.lss=>K (.bool (Op.bytesLess a.toList b.toList))
 |.leq=>K (.bool (Op.bytesLess a.toList b.toList||a.toList==b.toList))
 |.gtr=>K (.bool !(Op.bytesLess a.toList b.toList||a.toList==b.toList))
 |.geq=>K (.bool !(Op.bytesLess a.toList b.toList))
 |.add=>gdS (((a.size+b.size:Nat):Int)<=IntKind.i64.max) (K (.string (a++b)))
 |_=>False
def eqS(P:Program)(op:BinOp)(T:Nat)(x y:Operand)(u v:Value)(K:Value->Prop):Prop :=
 match op with
 |.eql=>zCj (zH1 P T x y u v) fun r=>K (.bool r)
 |.neq=>zCj (zH1 P T x y u v) fun r=>K (.bool !r)
 |_=>False
def zTt(P:Program)(op:BinOp)(T:Nat)(x y:Operand):Value->Value->(Value->Prop)->Prop
 |.int k a,.int k' b,K=>zHE op k a k' b K
 |.string a,.string b,K=>strS op a b K
 |u,v,K=>eqS P op T x y u v K
def zTe(P:Program)(s d:Nat):Value->(Value->Prop)->Prop
 |.int _ n,K=>zCj (zE5 P d) fun k=>gdS ((P.underlying s).isSome=true) (K (.int k (k.wrap n)))
 |.string b,K=>gdS (zFl P s=true) (gdS (zFl P d=true) (K (.string b)))
 |_,_=>False
def zSt(P:Program)(T:Nat):Value->(Value->Prop)->Prop
 |.string s,K=>gdS (zFl P T=true) (K (.int .i64 s.size))
 |.slice _ n _,K=>gdS (zGp P T=true) (K (.int .i64 n))
 |_,_=>False
def mmI(isMax:Bool)(k:IntKind):Int->List Value->(Value->Prop)->Prop
 |x,[],K=>K (.int k x)
 |x,.int _ y::l,K=>mmI isMax k (if isMax then(if y > x then y else x) else(if y<x then y else x)) l K
 |_,_,_=>False
def mmS(isMax:Bool):List Value->(Value->Prop)->Prop
 |.int k x::l,K=>mmI isMax k x l K
 |_,_=>False
structure LO where
 cls:Nat
 dst:Option Nat
 op:Op
 type:TypeId
 guard:Option (Nat×Bool)
def LO.exec (op : Op) (type : TypeId) (ρ : Env) : Sem Next := execOp ρ.ev ⟨none, op, type, "", #[], none⟩
section
variable (P:Program)
def zR2(op:Op)(type:TypeId)(ρ:Env)(w:World)(K:Value->World->Prop):Prop:=∃v,(∀w',(LO.exec op type ρ).run P w'=.ok (.value v) w')/\K v w
def zR1(op:Op)(type:TypeId)(ρ:Env)(w:World)(K:Value->World->Prop):Prop:=∃v,(∀w',zFf w w'->(LO.exec op type ρ).run P w'=.ok (.value v) w')/\K v w
def zUk(op:Op)(type:TypeId)(ρ:Env)(w:World)(K:Value->World->Prop):Prop:=∃v w',((LO.exec op type ρ).run P w=.ok (.value v) w'/\zFf w w')/\K v w'
def zGN(K:Value->World->Prop):Result Next->Prop
 |.ok (.value v) w'=>K v w'
 |.ok .skip w'=>K undef w'
 |.ok (.enter f args) w'=>Calls P f args w' fun e w''=>∃v,e=.returned v/\K v w''
 |_=>False
def zCd(op:Op)(type:TypeId)(ρ:Env)(w:World)(K:Value->World->Prop):Prop:=zGN P K ((LO.exec op type ρ).run P w)
def zAb(c:Nat)(op:Op)(type:TypeId)(ρ:Env)(w:World)(K:Value->World->Prop):Prop :=
 match c with
 |0=>zR2 P op type ρ w K
 |1=>zR1 P op type ρ w K
 |3=>zUk P op type ρ w K
 |_=>zCd P op type ρ w K
end
def zK(w:World)(a:Addr):Nat->Nat->Option (List Value)
 |_,0=>some []
 |i,n+1=>match w.cell? (a.add i),zK w a (i+1) n with
  |some c,some l=>some (c::l)
  |_,_=>none
def ldK(w:World)(a:Addr)(K:Value->Prop):Option (Option Nat)->Prop
 |some none=>zCj (w.cell? a) K
 |some (some n)=>zCj (zK w a 0 n) fun cs=>K (.agg cs.toArray)
 |none=>False
def ldS(P:Program)(T:Nat)(w:World):Value->(Value->Prop)->Prop
 |.pointer (some a),K=>ldK w a K (zAa P T)
 |_,_=>False
def rowO:Option Obj->Option (Array Value×Nat)
 |some (.cells c E (0,0))=>some (c,E)
 |_=>none
def zHa(w:World)(a:Addr):Option (Array Value×Nat):=rowO (w.heap[a.block]?)
theorem zLB{w:World}{a:Addr}{c:Array Value}{E:Nat}(h:zHa w a=some (c,E)):w.heap[a.block]? = some (.cells c E (0,0)):=by
 unfold zHa rowO at h;split at h
 ·rename_i c' E' hh;simp only[Option.some.injEq,Prod.mk.injEq] at h;obtain⟨rfl,rfl⟩:=h;exact hh
 ·cases h
def stC(w:World)(a:Addr)(cs:List Value)(K:World->Prop):Prop :=
 zCj (zHa w a) fun q=>gdS (a.spot=none/\a.off+cs.length<=q.1.size/\cs.all zAn=true) (K (w.setB a.block (.cells (zBh q.1 a.off cs) q.2 (0,0))))
def zAq(P:Program)(T:Nat):Option Nat:=(P.info? T).map (·.size)
def stS(P:Program)(T:Nat)(w:World):Value->Value->(World->Prop)->Prop
 |.pointer (some a),x,K=>gdS (zAq P T=some x.cells.size) (stC w a x.cells.toList K)
 |_,_,_=>False
def zAv(P:Program)(T:Nat):Option (List Value×List (Nat×Nat)×Nat) :=
 match zC8 P T,P.underlying T with
 |some z,some (.struct fs)=>match fs.toList.mapM fun f=>(P.info? f.type).map fun i=>(f.offset,i.size) with
  |some l=>some (z.cells.toList,l,0)
  |none=>none
 |some z,some (.array _ e)=>match P.info? e with
  |some i=>some (z.cells.toList,[],i.size)
  |none=>none
 |_,_=>none
def zFE(pl:List (Nat×Nat))(cs:Array Value):List (Nat×Value)->Option (Array Value)
 |[]=>some cs
 |(i,v)::r=>match pl[i]? with
  |some q=>if v.cells.size≠q.2||q.1+q.2 > cs.size then none else zFE pl (zBh cs q.1 v.cells.toList) r
  |none=>none
def zW(z:List Value):Nat->List Value
 |0=>[]
 |n+1=>z++zW z n
def zBP(sz:Nat)(cs:Array Value):List (Nat×Value)->Option (Array Value)
 |[]=>some cs
 |(i,v)::r=>if v.cells.size≠sz||i*sz+sz > cs.size then none else zBP sz (zBh cs (i*sz) v.cells.toList) r
def zTs(parts:List (Nat×Value))(q:List Value×List (Nat×Nat)×Nat):Option (Array Value) :=
 if q.2.2=0 then zFE q.2.1 q.1.toArray parts else zBP q.2.2 q.1.toArray parts
def zUQ(P:Program)(T:Nat)(parts:List (Nat×Value))(K:Value->Prop):Prop:=zCj (zAv P T) fun q=>zCj (zTs parts q) fun cs=>K (.agg cs)
def rdS(P:Program)(s:Sem Value)(w:World)(K:Value->Prop):Prop:=∃v,(∀w',zFf w w'->s.run P w'=.ok v w')/\K v
def zOu(P:Program)(s:Sem Value)(w:World)(K:Value->World->Prop):Prop:=∃v w',s.run P w=.ok v w'/\K v w'
def zUM(P:Program)(s:Sem Unit)(w:World)(K:World->Prop):Prop:=∃w',s.run P w=.ok () w'/\K w'
def slcS(P:Program)(s:Sem Value)(K:Value->Prop):Prop:=∃v,(∀w',s.run P w'=.ok v w')/\K v
def boxS(T:Nat)(w:World)(v:Value)(K:Value->World->Prop):Prop:=K (.pointer (some ⟨w.heap.size,0,none⟩)) (w.alloc (.cells v.cells T))
def newS(P:Program)(T:Nat)(w:World)(K:Value->World->Prop):Prop:=zCj (zC8 P T) fun z=>boxS T w z K
def bslS(P:Program)(T n:Nat)(parts:List (Nat×Value))(w:World)(K:Value->World->Prop):Prop :=
 zCj (zn P T) fun q=>gdS (n*q.2.1<=16777216) (zCj (zBP q.2.1 (zW q.2.2.2 n).toArray parts) fun cs=>K (.slice (some ⟨w.heap.size,0,none⟩) n n) (w.alloc (.cells cs q.1)))
def zSo(P:Program)(T:Nat)(w:World):Value->Value->(Value->World->Prop)->Prop
 |.int _ l,.int _ c,K=>zCj (zn P T) fun q=>gdS (0<=l/\l<=c/\c<=9223372036854775807/\q.2.2.1*c<=140737488355328)
   (K (.slice (some ⟨w.heap.size,0,none⟩) l.toNat c.toNat) (w.alloc (.cells (zW q.2.2.2 c.toNat).toArray q.1)))
 |_,_,_=>False
def zTo(P:Program)(w:World)(f:Nat)(args:List Value)(K:Value->World->Prop):Prop:=Calls P f args.toArray w fun e w'=>∃v,e=.returned v/\K v w'
def zJH(P:Program)(w:World):Value->List Value->(Value->World->Prop)->Prop
 |.func (.func f) x y,args,K=>gdS (zE P f=true) (zTo P w f (x.toList++args++y.toList) K)\/∃v w',(callFunc f (x.toList++args++y.toList).toArray).run P w=.ok (.value v) w'/\K v w'
 |_,_,_=>False
def opS(P:Program)(c:Nat)(op:Op)(ty:TypeId)(ρ:Env)(w:World)(K:Value->World->Prop):Prop :=
 match op with
 |.move x|.assign x=>c=0/\K (ρ.ev x) w
 |.pick b x y=>c=0/\zLH (ρ.ev b) (ρ.ev x) (ρ.ev y) fun v=>K v w
 |.build T parts=>c=0/\zUQ P T (parts.toList.map fun(i,x)=>(i,ρ.ev x)) fun v=>K v w
 |.nilCheck x=>c=0/\zUI (ρ.ev x) fun v=>K v w
 |.fieldAddr T x k=>c=0/\zI2 P T k (ρ.ev x) fun v=>K v w
 |.field T x k=>c=0/\zTG P T k (ρ.ev x) fun v=>K v w
 |.indexAddr T x i=>c=0/\zIx P T (ρ.ev x) (ρ.ev i) fun v=>K v w
 |.index T x i=>c=0/\zTB P T (ρ.ev x) (ρ.ev i) fun v=>K v w
 |.extract x i=>c=0/\zCZ (ρ.ev x) i fun v=>K v w
 |.unOp o _ x=>c=0/\unS o (ρ.ev x) fun v=>K v w
 |.makeInterface T x=>c=0/\zq P T=some false/\K (.iface T (ρ.ev x)) w
 |.makeFunc fn a b=>c=0/\K (.func fn (a.toList.map ρ.ev).toArray (b.toList.map ρ.ev).toArray) w
 |.slice T x lo hi mx=>c=0/\slcS P (Instr.sliceAt T (ρ.ev x) (lo.map ρ.ev) (hi.map ρ.ev) (mx.map ρ.ev)) fun v=>K v w
 |.typeAssert x xT aT ok=>c=0/\asS P xT aT ok (ρ.ev x) fun v=>K v w
 |.binOp o T x y _=>if c=1 then rdS P (do eqGuard o T x y (ρ.ev x) (ρ.ev y);binOp o T (ρ.ev x) (ρ.ev y)) w fun v=>K v w else c=0/\zTt P o T x y (ρ.ev x) (ρ.ev y) fun v=>K v w
 |.convert s d x=>if c=2 then zOu P (convert s d (ρ.ev x)) w K else c=0/\zTe P s d (ρ.ev x) fun v=>K v w
 |.load T a=>c=1/\ldS P T w (ρ.ev a) fun v=>K v w
 |.lookup T m k ok=>c=1/\rdS P (Instr.lookup T (ρ.ev m) (ρ.ev k) ok) w fun v=>K v w
 |.box T x=>c=3/\boxS T w (ρ.ev x) K
 |.alloc T=>c=3/\newS P T w K
 |.buildSlice T n parts=>c=3/\bslS P T n (parts.toList.map fun(i,x)=>(i,ρ.ev x)) w K
 |.makeMap T none=>c=3/\K (.map (some w.heap.size)) (w.alloc (.map #[] 0))
 |.makeSlice T l k=>c=3/\zSo P T w (ρ.ev l) (ρ.ev k) K
 |.store T a x=>c=2/\stS P T w (ρ.ev a) (ρ.ev x) fun w'=>K undef w'
 |.mapUpdate T m k x=>c=2/\zUM P (Instr.mapUpdate T (ρ.ev m) (ρ.ev k) (ρ.ev x)) w fun w'=>K undef w'
 |.mapEntry T m k=>c=2/\zOu P (Instr.mapEntry T (ρ.ev m) (ρ.ev k)) w K
 |.entryStore T m s x=>c=2/\zUM P (Instr.entryStore T (ρ.ev m) (ρ.ev s) (ρ.ev x)) w fun w'=>K undef w'
 |.range T x=>c=2/\zOu P (Instr.range T (ρ.ev x)) w K
 |.next x s=>c=2/\zOu P (Instr.next (ρ.ev x) s ty) w K
 |.entry x=>c=2/\zOu P (Instr.entry (ρ.ev x)) w K
 |.call ⟨.builtin .len,args,tys⟩=>if c=1 then rdS P (Builtin.len_ tys ty (args.map ρ.ev)) w fun v=>K v w else c=0/\zCj tys[0]? fun T=>zCj args[0]? fun x=>zSt P T (ρ.ev x) fun v=>K v w
 |.call ⟨.builtin .min,args,tys⟩=>c=0/\mmS false (args.toList.map ρ.ev) fun v=>K v w
 |.call ⟨.builtin .max,args,tys⟩=>c=0/\mmS true (args.toList.map ρ.ev) fun v=>K v w
 |.call ⟨.builtin .append,args,tys⟩=>c=2/\zOu P (Builtin.append_ tys ty (args.toList.map ρ.ev).toArray) w K
 |.call ⟨.builtin .copy,args,tys⟩=>c=2/\zOu P (Builtin.copy_ tys ty (args.toList.map ρ.ev).toArray) w K
 |.call ⟨.builtin .delete,args,tys⟩=>c=2/\zOu P (Builtin.delete_ tys ty (args.toList.map ρ.ev).toArray) w K
 |.call ⟨.value f,args,tys⟩=>c=2/\zJH P w (ρ.ev f) (args.toList.map ρ.ev) K
 |op=>zAb P c op ty ρ w K
section
variable {P:Program} {ρ:Env} {w:World} {ty:TypeId}
theorem zMR(h:Array Obj)(b:Nat)(o:Obj)(hb:h[b]? = some o):h.setIfInBounds b o=h:=by
 apply Array.ext_getElem?;intro i;rw[Array.getElem?_setIfInBounds];split
 ·rename_i e;subst e;have:=(Array.getElem?_eq_some_iff.1 hb).1;rw[if_pos this];exact hb.symm
 ·rfl
theorem zMT{b:Nat}{o:Obj}(h:w.heap[b]? = some o):w.setB b o=w:=by
 unfold World.setB;rw[zMR _ _ _ h]
theorem zMS{b:Nat}{o o':Obj}:(w.setB b o).setB b o'=w.setB b o':=by
 unfold World.setB;simp
theorem zSF{b:Nat}{o o':Obj}(h:w.heap[b]? = some o'):(w.setB b o).heap[b]? = some o:=by
 have:=(Array.getElem?_eq_some_iff.1 h).1;simp[World.setB,this]
theorem zHX{b i:Nat}{c:Array Value}{E:TypeId}{v:Value}(h:w.heap[b]? = some (.cells c E (0,0))) :
  w.setCell ⟨b,i,none⟩ v=w.setB b (.cells (c.setIfInBounds i v) E (0,0)):=by
 unfold World.setCell World.setB;congr 1;apply Array.ext_getElem?;intro j;rw[Array.getElem?_modify,Array.getElem?_setIfInBounds];split
 ·rename_i e;subst e;have:=(Array.getElem?_eq_some_iff.1 h).1;rw[if_pos this,h];simp
 ·rfl
theorem zEf:∀(vs:List Value) (c:Array Value) (o:Nat),(zBh c o vs).size=c.size
 |[],_,_=>rfl
 |v::vs,c,o=>by simp[zBh,zEf vs]
theorem zh(b o i:Nat):(⟨b,o,none⟩:Addr).add i=⟨b,o+i,none⟩:=by
 unfold Addr.add;split
 ·rename_i h;subst h;rfl
 ·rfl
theorem zAx{b o:Nat}{E:TypeId}:∀(vs:List Value) (i:Nat) (c:Array Value) (w:World),w.heap[b]? = some (.cells c E (0,0))->o+i+vs.length<=c.size->vs.all zAn=true ->
  (storeCells ⟨b,o,none⟩ vs i).run P w=.ok () (w.setB b (.cells (zBh c (o+i) vs) E (0,0)))
 |[],i,c,w,h,_,_=>by simp only[storeCells,Sem.run_pure,zBh];rw[zMT h]
 |v::vs,i,c,w,h,hs,ho=>by
  simp only[List.all_cons,Bool.and_eq_true] at ho;simp only[storeCells,Sem.run_bind,zh];have JA:o+i+(vs.length+1)<=c.size:=by simpa using hs
  have hc:w.cell? ⟨b,o+i,none⟩=some c[o+i]:=by simp only[World.cell?,h];simp[Array.getElem?_eq_getElem (show o+i<c.size by clear hs;omega)]
  have hf:w.frozen? ⟨b,o+i,none⟩=false:=by simp only[World.frozen?,h];simp
  have h1:(store ⟨b,o+i,none⟩ v).run P w=.ok () (w.setCell ⟨b,o+i,none⟩ v):=by rw[run_store P w _ v .plain (by cases v<;>simp_all [zAn,Value.oneCell'])];simp[hc,hf]
  rw[h1];simp only[Result.andThen_ok];rw[zHX h];have:=zAx (o:=o) vs (i+1) (c.setIfInBounds (o+i) v) (w.setB b (.cells (c.setIfInBounds (o+i) v) E (0,0))) (zSF h) (by simp;omega) ho.2;rw[this,zMS];simp[zBh,Nat.add_assoc]
theorem zKd{w w':World}(h:zFf w w'){a:Addr}{v:Value}(hc:w.cell? a=some v):w'.cell? a=some v:=by
 unfold World.cell? at hc;split at hc
 ·rename_i c e f hb;unfold World.cell?;rw[h _ _ hb];exact hc
 ·cases hc
theorem zFL{w w':World}(h:zFf w w'){a:Addr}:∀(n i:Nat) (cs:List Value),zK w a i n=some cs->zK w' a i n=some cs
 |0,_,_,hc=>hc
 |n+1,i,cs,hc=>by
  unfold zK at hc ⊢;split at hc
  ·rename_i c l h1 h2;rw[zKd h h1,zFL h n _ _ h2];exact hc
  ·cases hc
theorem zCC{a:Addr}:∀(n i:Nat) (cs:List Value) (acc:Array Value),zK w a i n=some cs->(loadCellsFrom a i n acc).run P w=.ok (acc++cs.toArray) w
 |0,i,cs,acc,h=>by simp only[zK,Option.some.injEq] at h;subst h;simp[loadCellsFrom]
 |n+1,i,cs,acc,h=>by
  unfold zK at h;split at h
  ·rename_i c l h1 h2;simp only[Option.some.injEq] at h;subst h;have ih:=zCC n (i+1) l (acc.push c) h2;simp only[loadCellsFrom,Sem.run_bind,run_load,h1,Result.andThen_ok,ih];simp
  ·cases h
theorem zSv{T:Nat}{v:Value}{K:Value->Prop}(h:ldS P T w v K):∃u,(∀w',zFf w w'->(Instr.loadAt T v).run P w'=.ok u w')/\K u:=by
 unfold ldS at h;split at h
 ·rename_i a;unfold ldK at h;simp only[zAE] at h;split at h
  ·rename_i ht;obtain⟨c,hc,hk⟩:=h;refine⟨c,fun w' JA=>?_,hk⟩;have JB:=zKd JA hc;unfold zAa at ht;split at ht
   ·cases ht
   ·cases ht
   ·rename_i d i JD JC hu hi;have:(isAgg T).run P w'=.ok false w':=by unfold isAgg;rw[Sem.run_bind,run_underlying hu];simp only[Result.andThen_ok];cases d<;>simp_all
    simp[Instr.loadAt,Instr.sureAddr,loadVar,this,JB]
   ·cases ht
  ·rename_i n ht;obtain⟨cs,hc,hk⟩:=h;refine⟨_,fun w' JA=>?_,hk⟩;have JB:=zFL JA _ _ _ hc;have hr:=zCC (P:=P) _ _ _ #[] JB;unfold zAa at ht;split at ht
   ·rename_i fs i hu hi;simp only[Option.some.injEq] at ht;subst ht;simp[Instr.loadAt,Instr.sureAddr,loadVar,isAgg,run_underlying hu,sizeOf,typeInfo,hi,loadCells,hr]
   ·rename_i l e i hu hi;simp only[Option.some.injEq] at ht;subst ht;simp[Instr.loadAt,Instr.sureAddr,loadVar,isAgg,run_underlying hu,sizeOf,typeInfo,hi,loadCells,hr]
   ·split at ht<;>cases ht
   ·cases ht
  ·cases h
 ·cases h
theorem zR4{T:Nat}{v x:Value}{K:World->Prop}(h:stS P T w v x K):∃w',(Instr.storeAt T v x).run P w=.ok () w'/\K w':=by
 unfold stS at h;split at h
 ·rename_i K a;simp only[stC,zAE,zAi] at h;obtain⟨hs,⟨c,E⟩,hb,⟨JB,JA,ho⟩,hk⟩:=h;replace hb:=zLB hb;obtain⟨b,o,s⟩:=a
  dsimp only at JB hb JA hk
  subst JB;unfold zAq at hs;cases hi:P.info? T with
  |none=>rw[hi] at hs;cases hs
  |some i =>rw[hi] at hs;simp only[Option.map_some,Option.some.injEq] at hs;have:=zAx (P:=P) (o:=o) _ 0 c w hb (by simpa using JA) ho;refine⟨_,?_,hk⟩;simp[Instr.storeAt,Instr.sureAddr,storeVar,sizeOf,typeInfo,hi,hs,this]
 ·cases h
theorem zNm{T k:Nat}{v:Value}{K:Value->Prop}(h:zI2 P T k v K):∃u,(∀w',(Instr.fieldAt T v k).run P w'=.ok u w')/\K u:=by
 unfold zI2 at h;simp only[zAE,zAi] at h;split at h
 ·obtain⟨o,ho,hk⟩:=h;refine⟨_,fun w'=>?_,hk⟩;unfold zCg at ho;split at ho
  ·rename_i fs hu;split at ho
   ·rename_i f hf;split at ho
    ·rename_i i hi;split at ho
     ·cases ho
     ·rename_i hz;simp only[Option.some.injEq] at ho;subst ho;simp[Instr.fieldAt,run_underlying hu,hf,Instr.sureAddr,fieldPlace,sizeOf,typeInfo,hi,hz]
    ·cases ho
   ·cases ho
  ·cases ho
 ·cases h
theorem zr{T e sz by_:Nat}{z:List Value}(h:zn P T=some (e,sz,by_,z)) :
  ∃i zv,P.underlying T=some (.slice e)/\P.info? e=some i/\i.zero=some zv/\i.size=sz/\i.bytes=by_/\zv.cells.toList=z/\zv.cells.size=sz/\0<sz:=by
 unfold zn at h;split at h
 ·rename_i e' hu;split at h
  ·rename_i i hi;split at h
   ·rename_i zv hz;split at h
    ·rename_i hc;simp only[Option.some.injEq,Prod.mk.injEq] at h;obtain⟨rfl,rfl,rfl,rfl⟩:=h;exact⟨i,zv,hu,hi,hz,rfl,rfl,rfl,hc.1,hc.2⟩
    ·cases h
   ·cases h
  ·cases h
 ·cases h
theorem zNb{T:Nat}{v x:Value}{K:Value->Prop}(h:zIx P T v x K):∃u,(∀w',(Instr.indexAt T v x).run P w'=.ok u w')/\K u:=by
 unfold zIx at h;simp only[zAE,zAi] at h;split at h
 ·obtain⟨⟨e,sz,by_,z⟩,hs,hi,hk⟩:=h;obtain⟨i,zv,hu,JA,_,rfl,_⟩:=zr hs;refine⟨_,fun w'=>?_,hk⟩;simp[Instr.indexAt,asIntOf,run_underlying hu,hi,sizeOf,typeInfo,JA]
 ·obtain⟨⟨n,sz,g⟩,hs,hi,hk⟩:=h
  dsimp only at hi
  refine⟨_,fun w'=>?_,hk⟩;unfold zG8 at hs;split at hs
  ·rename_i n' e hu;have JB:∃i,P.info? e=some i/\i.size=sz/\n'=n:=by
    split at hs
    all_goals first|(simp only[Option.some.injEq,Prod.mk.injEq] at hs;exact⟨_,by assumption,hs.2.1,hs.1⟩)|cases hs
   obtain⟨i,JA,rfl,rfl⟩:=JB;simp[Instr.indexAt,asIntOf,run_underlying hu,Instr.sureAddr,hi,sizeOf,typeInfo,JA]
  ·cases hs
 ·cases h
theorem zCD{T:Nat}{r:Option Nat}(h:zAa P T=some r)(w:World):(isAgg T).run P w=.ok r.isSome w/\∀n,r=some n->(sizeOf T).run P w=.ok n w:=by
 unfold zAa at h;split at h
 ·rename_i fs i hu hi;simp only[Option.some.injEq] at h;subst h;refine⟨by simp[isAgg,run_underlying hu],?_⟩;rintro n ⟨rfl⟩;simp[sizeOf,typeInfo,hi]
 ·rename_i l e i hu hi;simp only[Option.some.injEq] at h;subst h;refine⟨by simp[isAgg,run_underlying hu],?_⟩;rintro n ⟨rfl⟩;simp[sizeOf,typeInfo,hi]
 ·rename_i d i JB JA hu hi;split at h
  ·simp only[Option.some.injEq] at h;subst h;refine⟨?_,by rintro n ⟨⟩⟩;unfold isAgg;rw[Sem.run_bind,run_underlying hu];simp only[Result.andThen_ok];cases d<;>simp_all
  ·cases h
 ·cases h
theorem zPN{T:Nat}{cs:Array Value}{off:Nat}{v:Value}(h:zLI (zAa P T) cs off=some v)(w:World):(part T cs off).run P w=.ok v w:=by
 unfold zLI at h;split at h
 ·rename_i hr;obtain⟨h1,_⟩:=zCD hr w;simp[part,h1,h]
 ·rename_i n hr;obtain⟨h1,h2⟩:=zCD hr w;simp only[Option.some.injEq] at h;subst h;simp[part,h1,h2 n rfl]
 ·cases h
theorem zQB{T k:Nat}{v:Value}{K:Value->Prop}(h:zTG P T k v K):∃u,(∀w',(Instr.field T v k).run P w'=.ok u w')/\K u:=by
 unfold zTG at h;simp only[zAE,zAi] at h;split at h
 ·obtain⟨⟨ag,of⟩,JA,v,hp,hk⟩:=h;obtain⟨fs,f,hu,hf,rfl,rfl⟩:∃fs f,P.underlying T=some (.struct fs)/\fs[k]? = some f/\zAa P f.type=ag/\f.offset=of:=by
   unfold zDl at JA;split at JA
   ·rename_i fs hu;split at JA
    ·rename_i f hf;simp only[Option.some.injEq,Prod.mk.injEq] at JA;exact⟨fs,f,hu,hf,JA.1,JA.2⟩
    ·cases JA
   ·cases JA
  refine⟨v,fun w'=>?_,hk⟩;simp[Instr.field,run_underlying hu,hf,asAgg,zPN hp]
 ·cases h
theorem zP0{T:Nat}{v x:Value}{K:Value->Prop}(h:zTB P T v x K):∃u,(∀w',(Instr.index T v x).run P w'=.ok u w')/\K u:=by
 unfold zTB at h;simp only[zAE,zAi] at h;split at h
 ·obtain⟨⟨n,sz,g⟩,hs,hi,u,hp,hk⟩:=h
  dsimp only at hi
  simp only[zG7] at hp;refine⟨u,fun w'=>?_,hk⟩;unfold zG8 at hs;split at hs
  ·rename_i n' e hu;split at hs
   ·rename_i i fs JA JC;simp only[Option.some.injEq,Prod.mk.injEq] at hs;obtain⟨rfl,rfl,rfl⟩:=hs;simp only[if_true,Option.some.injEq] at hp;simp[Instr.index,asIntOf,run_underlying hu,hi,sizeOf,typeInfo,JA,part,isAgg,run_underlying JC,hp]
   ·rename_i i l e' JA JC;simp only[Option.some.injEq,Prod.mk.injEq] at hs;obtain⟨rfl,rfl,rfl⟩:=hs;simp only[if_true,Option.some.injEq] at hp;simp[Instr.index,asIntOf,run_underlying hu,hi,sizeOf,typeInfo,JA,part,isAgg,run_underlying JC,hp]
   ·rename_i i d JE JD JA JC;simp only[Option.some.injEq,Prod.mk.injEq] at hs;obtain⟨rfl,rfl,rfl⟩:=hs;simp only[Bool.false_eq_true,if_false] at hp;have:(isAgg e).run P w'=.ok false w':=by unfold isAgg;rw[Sem.run_bind,run_underlying JC];simp only[Result.andThen_ok];cases d<;>simp_all
    simp[Instr.index,asIntOf,run_underlying hu,hi,sizeOf,typeInfo,JA,part,this,hp]
   ·cases hs
  ·cases hs
 ·rename_i s k i K;obtain⟨JB,hi,b,hb,hk⟩:=h;refine⟨_,fun w'=>?_,hk⟩;unfold zFl at JB;split at JB
  ·rename_i hu;simp[Instr.index,asIntOf,run_underlying hu,hi,hb]
  ·cases JB
 ·cases h
theorem zM7{isMax:Bool}{k:IntKind}:∀(l:List Value) (x:Int) {K:Value->Prop},mmI isMax k x l K->∃u,(∀w',(l.foldlM (if isMax then Builtin.max2 else Builtin.min2) (.int k x)).run P w'=.ok u w')/\K u
 |[],x,K,h=>⟨_,fun w'=>rfl,h⟩
 |.int k' y::l,x,K,h=>by simp only[mmI] at h;obtain⟨u,hu,hk⟩:=zM7 l _ h;refine⟨u,fun w'=>?_,hk⟩;have:=hu w';cases isMax<;>simpa[List.foldlM_cons,Builtin.max2,Builtin.min2] using this
 |.bool _::_,_,_,h|.float ..::_,_,_,h|.complex ..::_,_,_,h|.string _::_,_,_,h|.pointer _::_,_,_,h|.slice ..::_,_,_,h|.map _::_,_,_,h|.chan _::_,_,_,h
 |.func ..::_,_,_,h|.nilFunc::_,_,_,h|.iface ..::_,_,_,h|.nilIface::_,_,_,h|.agg _::_,_,_,h|.tuple _::_,_,_,h=>h.elim
theorem zM6{isMax:Bool}{l:List Value}{K:Value->Prop}(h:mmS isMax l K)(tys:Array TypeId):∃u,(∀w',((if isMax then Builtin.max_ else Builtin.min_) tys ty l.toArray).run P w'=.ok u w')/\K u:=by
 unfold mmS at h;split at h
 ·obtain⟨u,hu,hk⟩:=zM7 (P:=P) _ _ h;refine⟨u,fun w'=>?_,hk⟩;have:=hu w';cases isMax<;>simpa[Builtin.max_,Builtin.min_] using this
 ·cases h
theorem zAR{T:Nat}{b:Bool}(h:zq P T=some b):∃d,P.underlying T=some d/\(b=false->∀ms,d≠.interface ms)/\(b=true->∃ms,d=.interface ms):=by
 unfold zq at h;split at h
 ·rename_i ms hu;simp only[Option.some.injEq] at h;subst h;exact⟨_,hu,by simp,fun _=>⟨_,rfl⟩⟩
 ·rename_i d hn hu;simp only[Option.some.injEq] at h;subst h;exact⟨_,hu,fun _ ms e=>hn ms e,by simp⟩
 ·cases h
theorem zGS{T:Nat}(h:zq P T=some false)(v:Value)(w:World):(Instr.makeInterface T v).run P w=.ok (.iface T v) w:=by
 obtain⟨d,hu,hn,_⟩:=zAR h;unfold Instr.makeInterface;rw[Sem.run_bind,run_underlying hu];simp only[Result.andThen_ok];split
 ·rename_i ms;exact absurd rfl (hn rfl _)
 ·rfl
theorem zBg{T:Nat}{z:Value}(h:zC8 P T=some z)(w:World):(zeroValue T).run P w=.ok z w:=by
 unfold zC8 at h;split at h
 ·rename_i i hi;simp[zeroValue,typeInfo,hi,h]
 ·cases h
theorem zTu{xT aT:Nat}{ok:Bool}{v:Value}{K:Value->Prop}(h:asS P xT aT ok v K):∃u,(∀w',(Instr.typeAssert v xT aT ok).run P w'=.ok u w')/\K u:=by
 unfold asS at h;simp only[zAE,zAi] at h;split at h
 ·rename_i t v K;obtain⟨hi,h⟩:=h;obtain⟨d,hu,hn,_⟩:=zAR hi;have JA:=hn rfl;split at h
  ·rename_i ht;refine⟨_,fun w'=>?_,h⟩;unfold Instr.typeAssert;simp only[Sem.run_bind,run_underlying hu,Result.andThen_ok];cases d<;>first|exact absurd rfl (JA _)|(simp[ht])
  ·rename_i ht;obtain⟨rfl,z,hz,hk⟩:=h;refine⟨_,fun w'=>?_,hk⟩;unfold Instr.typeAssert;simp only[Sem.run_bind,run_underlying hu,Result.andThen_ok];cases d<;>first|exact absurd rfl (JA _)|(simp[ht,zBg hz])
 ·obtain⟨hi,rfl,z,hz,hk⟩:=h;obtain⟨d,hu,hn,_⟩:=zAR hi;have JA:=hn rfl;refine⟨_,fun w'=>?_,hk⟩;unfold Instr.typeAssert;simp only[Sem.run_bind,run_underlying hu,Result.andThen_ok];cases d<;>first|exact absurd rfl (JA _)|(simp[zBg hz])
 ·cases h
theorem zPw{op:BinOp}{k k':IntKind}{a b:Int}{K:Value->Prop}{T:Nat}{x y:Operand}(h:zHE op k a k' b K) :
  ∃u,(∀w',(do eqGuard op T x y (.int k a) (.int k' b);binOp op T (.int k a) (.int k' b):Sem Value).run P w'=.ok u w')/\K u:=by
 have hg:∀w':World,(eqGuard op T x y (.int k a) (.int k' b)).run P w'=.ok () w':=by intro w';unfold eqGuard;cases op<;>simp
 cases op<;>simp only[zHE,zAi] at h
 case quo =>
  obtain⟨rfl,hb,hk⟩:=h;exact⟨_,fun w'=>by simp[Sem.run_bind,hg,binOp,Op.intDiv,hb],hk⟩
 case rem =>
  obtain⟨rfl,hb,hk⟩:=h;exact⟨_,fun w'=>by simp[Sem.run_bind,hg,binOp,Op.intDiv,hb],hk⟩
 case shl =>
  obtain⟨hb,hk⟩:=h;have:¬b<0:=by omega
  exact⟨_,fun w'=>by simp[Sem.run_bind,hg,binOp,Op.shift,this],hk⟩
 case shr =>
  obtain⟨hb,hk⟩:=h;have:¬b<0:=by omega
  exact⟨_,fun w'=>by simp[Sem.run_bind,hg,binOp,Op.shift,this],hk⟩
 all_goals (obtain⟨rfl,hk⟩:=h;exact⟨_,fun w'=>by simp[Sem.run_bind,hg,binOp,Op.intArith,Op.intCmp,Op.intBits],hk⟩)
theorem zBY{α:Type}{c:Prop}[Decidable c]{a b:α}(h:(if c then some a else none)=some b):c/\a=b:=by
 split at h
 ·rename_i hc;exact⟨hc,Option.some.inj h⟩
 ·cases h
theorem zLb(T:Nat):∃d,∀u v,Op.equal T u v=Op.equalIn (d+1) T u v:=⟨9999,fun _ _=>rfl⟩
theorem zI7(T:Nat):∃d,∀u v,Op.equal T u v=Op.equalIn (d+2) T u v:=⟨9998,fun _ _=>rfl⟩
theorem zER{T:Nat}{x y:Operand}{u v:Value}{r:Bool}(h:zH1 P T x y u v=some r)(w:World) :
  (eqGuard .eql T x y u v).run P w=.ok () w/\(eqGuard .neq T x y u v).run P w=.ok () w/\(Op.equal T u v).run P w=.ok r w:=by
 obtain⟨d',JA⟩:=zLb T;unfold zH1 at h;split at h
 · -- bools
  obtain⟨hc,rfl⟩:=zBY h;unfold zGq at hc;split at hc
  ·rename_i hu;simp[eqGuard,JA,Op.equalIn,run_underlying hu]
  ·cases hc
 · -- nil,nil
  obtain⟨⟨hi,hc⟩,rfl⟩:=zBY h;obtain⟨d,hu,_,hd⟩:=zAR hi;obtain⟨ms,rfl⟩:=hd rfl;have JE:((match x with|.const _=>true|_=>false)||(match y with|.const _=>true|_=>false))=true:=by cases x<;>cases y<;>first|rfl|cases hc
  refine⟨?_,?_,by simp[JA,Op.equalIn,run_underlying hu]⟩
  ·cases x<;>cases y<;>first|(exfalso;cases hc;done)|simp[eqGuard]
  ·cases x<;>cases y<;>first|(exfalso;cases hc;done)|simp[eqGuard]
 ·obtain⟨hi,rfl⟩:=zBY h;obtain⟨d,hu,_,hd⟩:=zAR hi;obtain⟨ms,rfl⟩:=hd rfl;simp[eqGuard,JA,Op.equalIn,run_underlying hu]
 ·obtain⟨hi,rfl⟩:=zBY h;obtain⟨d,hu,_,hd⟩:=zAR hi;obtain⟨ms,rfl⟩:=hd rfl;simp[eqGuard,JA,Op.equalIn,run_underlying hu]
 ·rename_i a;obtain⟨hc,rfl⟩:=zBY h;unfold zHu at hc;split at hc
  ·rename_i e hu;cases a<;>simp[eqGuard,JA,Op.equalIn,run_underlying hu]
  ·cases hc
 ·rename_i a _ _ _ _;obtain⟨hc,rfl⟩:=zBY h;unfold zGp at hc;split at hc
  ·rename_i e hu;cases a<;>simp[eqGuard,JA,Op.equalIn,run_underlying hu]
  ·cases hc
 ·rename_i a;obtain⟨hc,rfl⟩:=zBY h;unfold zRL at hc;split at hc
  ·rename_i k e hu;cases a<;>simp[eqGuard,JA,Op.equalIn,run_underlying hu]
  ·cases hc
 ·rename_i t k a t' k' b;obtain⟨⟨hi,rfl,rfl,hc⟩,rfl⟩:=zBY h;obtain⟨d,hu,_,hd⟩:=zAR hi;obtain⟨ms,rfl⟩:=hd rfl;obtain⟨d2,JD⟩:=zI7 T;unfold intC at hc;split at hc
  ·rename_i k2 i JB hit;have JC:∀w:World,(typeInfo t).run P w=.ok i w:=fun w=>by simp[typeInfo,hit]
   refine⟨by simp[eqGuard],by simp[eqGuard],?_⟩;rw[JD];simp[Op.equalIn,run_underlying hu,run_underlying JB,JC,hc]
  ·cases hc
 ·cases h
theorem zOc{T:Nat}{x y:Operand}{r:Bool}{u v:Value}(hn:zH1 P T x y u v=some r)(w:World):(binOp .eql T u v).run P w=.ok (.bool r) w:=by
 have:=(zER hn w).2.2;unfold zH1 at hn;split at hn<;>first|cases hn|simp[binOp,this]
theorem zOb{T:Nat}{x y:Operand}{r:Bool}{u v:Value}(hn:zH1 P T x y u v=some r)(w:World):(binOp .neq T u v).run P w=.ok (.bool !r) w:=by
 have:=(zER hn w).2.2;unfold zH1 at hn;split at hn<;>first|cases hn|simp[binOp,this]
theorem zQa{op:BinOp}{T:Nat}{x y:Operand}{u v:Value}{K:Value->Prop}(h:zTt P op T x y u v K) :
  ∃r,(∀w',(do eqGuard op T x y u v;binOp op T u v:Sem Value).run P w'=.ok r w')/\K r:=by
 unfold zTt at h;split at h
 ·exact zPw h
 ·rename_i K a b;have hg:∀(w':World),(eqGuard op T x y (.string a) (.string b)).run P w'=.ok () w':=by intro w';unfold eqGuard;cases op<;>simp
  cases op<;>simp only[strS,zAi] at h
  case add =>
   obtain⟨hs,hk⟩:=h;refine⟨_,fun w'=>?_,hk⟩;have:¬(IntKind.i64.max<((a.size+b.size:Nat):Int)):=by omega
   simp only[Sem.run_bind,hg,Result.andThen_ok,binOp,Op.stringOp];rw[if_neg (by simpa using this)];rfl
  all_goals first
   |exact h.elim
   |exact⟨_,fun w'=>by simp[Sem.run_bind,hg,binOp,Op.stringOp],h⟩
 ·rename_i u v K JB JA;unfold eqS at h;simp only[zAE] at h;split at h
  ·obtain⟨r,hr,hk⟩:=h;exact⟨_,fun w'=>by simp[Sem.run_bind,(zER hr w').1,zOc hr],hk⟩
  ·obtain⟨r,hr,hk⟩:=h;exact⟨_,fun w'=>by simp[Sem.run_bind,(zER hr w').2.1,zOb hr],hk⟩
  ·cases h
theorem zQS{s d:Nat}{v:Value}{K:Value->Prop}(h:zTe P s d v K):∃u,(∀w',(convert s d v).run P w'=.ok u w')/\K u:=by
 unfold zTe at h;simp only[zAE,zAi] at h;split at h
 ·obtain⟨k,hk,hs,hK⟩:=h;refine⟨_,fun w'=>?_,hK⟩;unfold zE5 at hk;split at hk
  ·rename_i k' hu;simp only[Option.some.injEq] at hk;subst hk;obtain⟨ds,JC⟩:=Option.isSome_iff_exists.1 hs;unfold convert;simp only[Sem.run_bind,run_underlying JC,run_underlying hu,Result.andThen_ok];simp[Conv.intToInt]
  ·cases hk
 ·obtain⟨h1,h2,hK⟩:=h;refine⟨_,fun w'=>?_,hK⟩;unfold zFl at h1 h2;split at h1
  ·rename_i JB;split at h2
   ·rename_i JA;unfold convert;simp[Sem.run_bind,run_underlying JB,run_underlying JA]
   ·cases h2
  ·cases h1
 ·cases h
theorem zPp{T:Nat}{v:Value}{K:Value->Prop}(h:zSt P T v K)(tys:Array TypeId)(args:Array Value)(ht:tys[0]? = some T)(ha:args[0]? = some v) :
  ∃u,(∀w',(Builtin.len_ tys ty args).run P w'=.ok u w')/\K u:=by
 unfold zSt at h;simp only[zAi,zGp] at h;split at h
 ·obtain⟨h1,hk⟩:=h;refine⟨_,fun w'=>?_,hk⟩;unfold zFl at h1;split at h1
  ·rename_i hu;simp[Builtin.len_,ht,ha,run_underlying hu,goInt]
  ·cases h1
 ·obtain⟨h1,hk⟩:=h;refine⟨_,fun w'=>?_,hk⟩;split at h1
  ·rename_i hu;simp[Builtin.len_,ht,ha,run_underlying hu,goInt]
  ·cases h1
 ·cases h
theorem zCK(w:World)(o:Obj):zFf w (w.alloc o):=by
 intro b o' h;have JA:=(Array.getElem?_eq_some_iff.1 h).1;show(w.heap.push o)[b]? = some o';rw[Array.getElem?_push,if_neg (by omega)];exact h
theorem zDz(z:List Value):∀n,(zW z n).length=n*z.length
 |0=>by simp[zW]
 |n+1=>by simp[zW,zDz z n,Nat.add_mul,Nat.add_comm]
theorem zJk(z:List Value):∀(n i:Nat),i<n*z.length->(zW z n)[i]? = z[i%z.length]?
 |0,i,h=>by simp at h
 |n+1,i,h=>by
  simp only[zW];by_cases hi:i<z.length
  ·rw[List.getElem?_append_left hi,Nat.mod_eq_of_lt hi]
  ·have h1:z.length<=i:=by omega
   rw[List.getElem?_append_right h1,zJk z n (i-z.length) (by rw[Nat.add_mul] at h;omega)];congr 1;have:i=z.length+(i-z.length):=by omega
   rw[this,Nat.add_mod_left];congr 1;omega
theorem zQ2(z:Array Value)(n:Nat)(hz:0<z.size):(Array.range (n*z.size)).map (fun i=>z[i%z.size]!)=(zW z.toList n).toArray:=by
 apply Array.ext_getElem?;intro i;by_cases hi:i<n*z.size
 ·have h2:=zJk z.toList n i (by simpa using hi);have hm:i%z.size<z.size:=Nat.mod_lt _ hz;simp only[Array.getElem?_map,List.getElem?_toArray,h2,Array.length_toList];rw[Array.getElem?_range,if_pos hi];simp[hm]
 ·rw[Array.getElem?_eq_none (by simpa using hi),Array.getElem?_eq_none (by simp[zDz];simpa using hi)]
theorem zDj(o:Nat):∀(l:List Value) (k:Nat) (cs:Array Value),(l.zipIdx k).foldl (fun cs (p:Value×Nat)=>cs.setIfInBounds (o+p.2) p.1) cs=zBh cs (o+k) l
 |[],_,_=>rfl
 |v::l,k,cs=>by simp only[List.zipIdx_cons,List.foldl_cons,zBh];exact zDj o l (k+1) _
theorem zI4(sz:Nat):∀(parts:List (Nat×Value)) (cs r:Array Value),zBP sz cs parts=some r->Instr.fill (fun i=>some (i*sz,sz)) cs parts=some r
 |[],cs,r,h=>h
 |(i,v)::rest,cs,r,h=>by
  unfold zBP at h;split at h
  ·cases h
  ·rename_i hc;simp only[Bool.or_eq_true,not_or,decide_eq_true_eq,bne_iff_ne,ne_eq] at hc;simp only[Instr.fill];have h1:v.cells.size=sz:=by simpa using hc.1
   rw[if_neg (by simp only[Bool.or_eq_true,decide_eq_true_eq,bne_iff_ne,not_or];rw[h1];exact⟨by simp,by simpa using hc.2⟩)];have h2:=zDj (i*sz) v.cells.toList 0 cs;have h3:v.cells.zipIdx.foldl (fun cs (x:Value×Nat)=>cs.setIfInBounds (i*sz+x.2) x.1) cs=zBh cs (i*sz) v.cells.toList:=by rw[<-Array.foldl_toList];simpa using h2
   have:=zI4 sz rest _ _ h;rw[<-h3] at this;exact this
theorem zKM(pl:List (Nat×Nat)):∀(parts:List (Nat×Value)) (cs r:Array Value),zFE pl cs parts=some r->Instr.fill (fun i=>pl[i]?) cs parts=some r
 |[],cs,r,h=>h
 |(i,v)::rest,cs,r,h=>by
  unfold zFE at h;split at h
  ·rename_i q hq;split at h
   ·cases h
   ·rename_i hc;simp only[Bool.or_eq_true,not_or,decide_eq_true_eq,bne_iff_ne,ne_eq] at hc;simp only[Instr.fill,hq];have h1:v.cells.size=q.2:=by simpa using hc.1
    obtain⟨q1,q2⟩:=q
    dsimp only at h1 hc h ⊢
    rw[if_neg (by simp only[Bool.or_eq_true,decide_eq_true_eq,bne_iff_ne,not_or];rw[h1];exact⟨by simp,by simpa using hc.2⟩)];have h2:=zDj q1 v.cells.toList 0 cs;have h3:v.cells.zipIdx.foldl (fun cs (x:Value×Nat)=>cs.setIfInBounds (q1+x.2) x.1) cs=zBh cs q1 v.cells.toList:=by rw[<-Array.foldl_toList];simpa using h2
    have:=zKM pl rest _ _ h;rw[<-h3] at this;exact this
  ·cases h
theorem zLA{fs:List Field}:∀{l:List (Nat×Nat)},(fs.mapM fun f=>(P.info? f.type).map fun i=>(f.offset,i.size))=some l ->
  ∀w,(fs.mapM fun f=>(do pure (f.offset,<-sizeOf f.type):Sem (Nat×Nat))).run P w=.ok l w:=by
 induction fs with
 |nil=>intro l h w;simp at h;subst h;rfl
 |cons f fs ih =>
  intro l h w;rw[List.mapM_cons] at h ⊢;cases hi:P.info? f.type with
  |none=>rw[hi] at h;simp at h
  |some i =>
   rw[hi] at h;simp only[Option.map_some,Option.bind_eq_bind,Option.bind_some] at h;cases hr:(fs.mapM fun f=>(P.info? f.type).map fun i=>(f.offset,i.size)) with
   |none=>rw[hr] at h;simp at h
   |some r =>rw[hr] at h;simp at h;subst h;have:=ih hr w;simp[sizeOf,typeInfo,hi,this] at this ⊢;simp[this]
theorem zQZ{T:Nat}{parts:List (Nat×Value)}{K:Value->Prop}(h:zUQ P T parts K):∃v,(∀w,(Instr.build T parts.toArray).run P w=.ok v w)/\K v:=by
 simp only[zUQ,zAE] at h;obtain⟨⟨z,pl,sz⟩,hb,cs,hv,hk⟩:=h;refine⟨_,fun w=>?_,hk⟩;unfold zAv at hb;split at hb
 ·rename_i zv fs hz hu;split at hb
  ·rename_i l hl;simp only[Option.some.injEq,Prod.mk.injEq] at hb;obtain⟨rfl,rfl,rfl⟩:=hb;simp only[zTs,if_true] at hv;have hf:=zKM l _ _ _ hv;have hp:=zLA (P:=P) hl w;have JB:(fs.mapM fun f=>(do pure (f.offset,<-sizeOf f.type):Sem (Nat×Nat))).run P w=.ok l.toArray w:=by rw[Array.mapM_eq_mapM_toList];simp only[Sem.run_map,hp,Result.andThen_ok]
   have JC:Instr.fill (fun i=>l.toArray[i]?) zv.cells parts=some cs:=by
    have e:(fun(i:Nat)=>l.toArray[i]?)=fun(i:Nat)=>l[i]? := by funext i;simp
    rw[e];simpa using hf
   simp only[Instr.build,Sem.run_bind,zBg hz,Result.andThen_ok,run_underlying hu,JB];have JA:Instr.fill (fun x=>l.toArray[x]?) zv.cells parts.toArray.toList=some cs:=by simpa using JC
   simp only[JA];rfl
  ·cases hb
 ·rename_i zv n e hz hu;split at hb
  ·rename_i i hi;simp only[Option.some.injEq,Prod.mk.injEq] at hb;obtain⟨rfl,rfl,rfl⟩:=hb;by_cases h0:i.size=0
   ·rw[zTs,if_pos h0] at hv;cases parts with
    |nil =>simp only[zFE,Option.some.injEq] at hv;subst hv;simp[Instr.build,zBg hz,run_underlying hu,sizeOf,typeInfo,hi,Instr.fill]
    |cons p r=>simp[zFE] at hv
   ·rw[zTs,if_neg h0] at hv;have hf:=zI4 i.size _ _ _ hv;have JA:Instr.fill (fun x=>some (x*i.size,i.size)) zv.cells parts.toArray.toList=some cs:=by simpa using hf
    simp only[Instr.build,Sem.run_bind,zBg hz,Result.andThen_ok,run_underlying hu,sizeOf,typeInfo,run_program,hi,Sem.run_pure,JA]
  ·cases hb
 ·cases hb
theorem zQV{T n:Nat}{parts:List (Nat×Value)}{K:Value->World->Prop}(h:bslS P T n parts w K) :
  ∃v w',((Instr.buildSlice T n parts.toArray).run P w=.ok v w'/\zFf w w')/\K v w':=by
 simp only[bslS,zAE,zAi] at h;obtain⟨⟨e,sz,by_,z⟩,hs,hn,cs,hf,hk⟩:=h;obtain⟨i,zv,hu,JC,hz,rfl,_,rfl,JE,JG⟩:=zr hs;refine⟨_,_,⟨?_,zCK _ _⟩,hk⟩
 dsimp only at hn hf hk
 have JD:=zI4 i.size parts _ _ hf;have JI:¬(n*i.size > 2^24):=by omega
 by_cases JF:n*i.size=0
 ·have JH:n=0:=by
   rcases Nat.mul_eq_zero.1 JF with h|h
   ·exact h
   ·omega
  subst JH;simp only[zW] at JD;have er:∀f:Nat->Value,(Array.range 0).map f=#[]:=fun f=>by simp
  simp[Instr.buildSlice,run_underlying hu,sizeOf,typeInfo,JC,er,JD,newRow]
 ·have JB:=zQ2 zv.cells n (by omega);rw[JE] at JB;have JA:(Array.range (n*i.size)).map (fun x=>zv.cells[x%zv.cells.size]!)=(zW zv.cells.toList n).toArray:=by rw[JE];exact JB
  simp only[Instr.buildSlice,Sem.run_bind,run_underlying hu,Result.andThen_ok,sizeOf,typeInfo,run_program,JC,Sem.run_pure,if_neg JI,if_neg JF,zeroValue,hz,JA,JD];simp[newRow]
theorem zKJ{n:Int}(h0:0<=n)(h1:n<=9223372036854775807):IntKind.i64.wrap n=n:=by
 have hb:IntKind.i64.bits=64:=rfl;have hs:IntKind.i64.signed=true:=rfl;have hm:n%(2^64:Int)=n:=Int.emod_eq_of_lt h0 (by omega);simp only[IntKind.wrap,hb,hs,hm,Bool.true_and];rw[if_neg (by simp;omega)]
theorem zPj{T:Nat}{l c:Value}{K:Value->World->Prop}(h:zSo P T w l c K):∃v w',((Instr.makeSlice T l c).run P w=.ok v w'/\zFf w w')/\K v w':=by
 unfold zSo at h;split at h
 ·rename_i K k1 l k2 c;simp only[zAE,zAi] at h;obtain⟨⟨e,sz,by_,z⟩,hs,⟨h0,h1,h2,h3⟩,hk⟩:=h
  dsimp only at h3 hk
  obtain⟨i,zv,hu,JA,hz,rfl,rfl,rfl,JD,JF⟩:=zr hs;refine⟨_,_,⟨?_,zCK _ _⟩,hk⟩;have e1:=zKJ h0 (by omega);have e2:=zKJ (n:=c) (by omega) h2;have a1:¬c<0:=by omega
  have a2:¬(281474976710656<(i.bytes:Int)*c):=by omega
  have a3:¬l<0:=by omega
  have a4:¬c<l:=by omega
  by_cases JE:c.toNat*i.size=0
  ·have JG:c.toNat=0:=by
    rcases Nat.mul_eq_zero.1 JE with h|h
    ·exact h
    ·omega
   have er:∀f:Nat->Value,(Array.range 0).map f=#[]:=fun f=>by simp
   simp[Instr.makeSlice,run_underlying hu,asInt,asIntOf,typeInfo,JA,e1,e2,a1,a2,a3,a4,sizeOf,JG,newRow,zW,er]
  ·have JC:=zQ2 zv.cells c.toNat (by omega);rw[JD] at JC;have JB:(Array.range (c.toNat*i.size)).map (fun x=>zv.cells[x%zv.cells.size]!)=(zW zv.cells.toList c.toNat).toArray:=by rw[JD];exact JC
   have hb:(default:Value)=default:=rfl;simp only[Instr.makeSlice,Sem.run_bind,run_underlying hu,Result.andThen_ok,asInt,asIntOf,Sem.run_pure,typeInfo,run_program,JA,e1,e2];have t1:((decide (c<0)||decide ((i.bytes:Int)*c > 2^48))=true)=False:=by simp only[Bool.or_eq_true,decide_eq_true_eq,eq_iff_iff,iff_false,not_or];omega
   have t2:((decide (c<0)||decide ((i.bytes:Int)*c > 2^48)||decide (l<0)||decide (l > c))=true)=False:=by simp only[Bool.or_eq_true,decide_eq_true_eq,eq_iff_iff,iff_false,not_or];omega
   simp only[t2,if_false,Sem.run_bind,run_askRoom,Sem.run_pure,Result.andThen_ok,sizeOf,typeInfo,run_program,JA,if_neg JE,zeroValue,hz,newRow,run_newObj,JB];rfl
 ·cases h
theorem zOP{f:Value}{args:List Value}{K:Value->World->Prop}(h:zJH P w f args K):zGN P K ((do let d <-Deferred.ofValue f args.toArray;invoke d.target d.args:Sem Next).run P w):=by
 unfold zJH at h;split at h
 ·rename_i args K f x y;have e0:∀l:List Value,(x.toList++l++y.toList).toArray=x++l.toArray++y:=fun l=>by apply Array.ext';simp
  rcases h with⟨he,hc⟩|⟨v,w',hr,hk⟩
  case inr =>
   rw[e0] at hr;simp only[Deferred.ofValue,Sem.run_bind,Sem.run_pure,Result.andThen_ok,invoke,hr];exact hk
  unfold zE at he;split at he
  ·rename_i fn hf;simp only[Bool.and_eq_true,bne_iff_ne,ne_eq] at he;have hb:fn.body.isNone=false:=by
    cases hh:fn.body with
    |none=>rw[hh] at he;simp at he
    |some _=>rfl
   simp only[Deferred.ofValue,Sem.run_bind,Sem.run_pure,Result.andThen_ok,invoke,callFunc,run_program,hf,beq_iff_eq,he.2,if_false,hb,Bool.false_eq_true];simp only[zGN];have e:∀l:List Value,(x.toList++l++y.toList).toArray=x++l.toArray++y:=fun l=>by apply Array.ext';simp
   unfold zTo at hc;rw[e] at hc;exact hc
  ·cases he
 ·cases h
theorem zBc{α β:Type}(f:α->β)(a:Array α):(a.toList.map f).toArray=a.map f:=by
 rw[<-Array.toList_map,Array.toArray_toList]
theorem zKB(parts:Array (Nat×Operand)):(parts.map fun(i,x)=>(i,ρ.ev x))=(parts.toList.map fun(i,x)=>(i,ρ.ev x)).toArray:=(zBc _ _).symm
theorem zBM{c:Nat}{op:Op}{K:Value->World->Prop}(h:opS P c op ty ρ w K):zAb P c op ty ρ w K:=by
 cases op
 case move x=>obtain⟨rfl,h⟩:=h;exact⟨_,fun w'=>by simp[LO.exec,execOp],h⟩
 case assign x=>obtain⟨rfl,h⟩:=h;exact⟨_,fun w'=>by simp[LO.exec,execOp],h⟩
 case pick b x y =>
  obtain⟨rfl,h⟩:=h;simp only[zLH] at h;split at h
  ·rename_i t a b' K hb;refine⟨_,fun w'=>?_,h⟩;cases t<;>simp[LO.exec,execOp,hb,asBool]
  ·cases h
 case build T parts =>
  obtain⟨rfl,h⟩:=h;obtain⟨v,hv,h⟩:=zQZ h;refine⟨v,fun w'=>?_,h⟩;simp only[LO.exec,execOp,zKB];simp[Sem.run_bind,hv]
 case nilCheck x =>
  obtain⟨rfl,h⟩:=h;simp only[zUI] at h;split at h
  ·rename_i hb;exact⟨_,fun w'=>by simp[LO.exec,execOp,hb],h⟩
  ·rename_i hb;exact⟨_,fun w'=>by simp[LO.exec,execOp,hb],h⟩
  ·rename_i hb;exact⟨_,fun w'=>by simp[LO.exec,execOp,hb],h⟩
  ·cases h
 case fieldAddr T x k =>
  obtain⟨rfl,h⟩:=h;obtain⟨u,hu,hk⟩:=zNm h;exact⟨u,fun w'=>by simp[LO.exec,execOp,hu],hk⟩
 case field T x k =>
  obtain⟨rfl,h⟩:=h;obtain⟨u,hu,hk⟩:=zQB h;exact⟨u,fun w'=>by simp[LO.exec,execOp,hu],hk⟩
 case indexAddr T x i =>
  obtain⟨rfl,h⟩:=h;obtain⟨u,hu,hk⟩:=zNb h;exact⟨u,fun w'=>by simp[LO.exec,execOp,hu],hk⟩
 case index T x i =>
  obtain⟨rfl,h⟩:=h;obtain⟨u,hu,hk⟩:=zP0 h;exact⟨u,fun w'=>by simp[LO.exec,execOp,hu],hk⟩
 case extract x i =>
  obtain⟨rfl,h⟩:=h;unfold zCZ at h;simp only[zAE] at h;split at h
  ·rename_i hb;obtain⟨v,hv,hk⟩:=h;exact⟨v,fun w'=>by simp[LO.exec,execOp,hb,Instr.extract,hv],hk⟩
  ·cases h
 case unOp o T x =>
  obtain⟨rfl,h⟩:=h;simp only[unS] at h;split at h
  ·rename_i hb;exact⟨_,fun w'=>by simp[LO.exec,execOp,hb,Op.unary],h⟩
  ·rename_i hb;exact⟨_,fun w'=>by simp[LO.exec,execOp,hb,Op.unary,Op.intArith],h⟩
  ·cases h
 case makeInterface T x =>
  obtain⟨rfl,hi,h⟩:=h;exact⟨_,fun w'=>by simp[LO.exec,execOp,zGS hi],h⟩
 case makeFunc fn a b =>
  obtain⟨rfl,h⟩:=h;refine⟨_,fun w'=>?_,h⟩;simp[LO.exec,execOp,Instr.makeFunc,zBc]
 case slice T x lo hi mx =>
  obtain⟨rfl,v,hv,h⟩:=h;exact⟨v,fun w'=>by simp[LO.exec,execOp,hv],h⟩
 case typeAssert x xT aT ok =>
  obtain⟨rfl,h⟩:=h;obtain⟨u,hu,hk⟩:=zTu h;exact⟨u,fun w'=>by simp[LO.exec,execOp,hu],hk⟩
 case binOp o T x y yT =>
  simp only[opS] at h;split at h
  ·rename_i hc;subst hc;obtain⟨v,hv,hk⟩:=h;exact⟨v,fun w' JA=>by simp only[LO.exec,execOp];rw[Sem.run_bind,hv w' JA];rfl,hk⟩
  ·obtain⟨rfl,h⟩:=h;obtain⟨u,hu,hk⟩:=zQa h;exact⟨u,fun w'=>by simp only[LO.exec,execOp];rw[Sem.run_bind,hu w'];rfl,hk⟩
 case convert s d x =>
  simp only[opS] at h;split at h
  ·rename_i hc;subst hc;obtain⟨v,w',hv,hk⟩:=h;simp only[zAb,zCd,LO.exec,execOp,Sem.run_bind,hv,Result.andThen_ok];exact hk
  ·obtain⟨rfl,h⟩:=h;obtain⟨u,hu,hk⟩:=zQS h;exact⟨u,fun w'=>by simp[LO.exec,execOp,hu],hk⟩
 case load T a =>
  obtain⟨rfl,h⟩:=h;obtain⟨u,hu,hk⟩:=zSv h;exact⟨u,fun w' JA=>by simp[LO.exec,execOp,hu w' JA],hk⟩
 case lookup T m k ok =>
  obtain⟨rfl,v,hv,hk⟩:=h;exact⟨v,fun w' JA=>by simp[LO.exec,execOp,hv w' JA],hk⟩
 case box T x =>
  obtain⟨rfl,h⟩:=h;refine⟨_,_,⟨?_,zCK _ _⟩,h⟩;simp[LO.exec,execOp,Instr.box,newVar,newRow]
 case alloc T =>
  obtain⟨rfl,h⟩:=h;simp only[newS,zAE] at h;obtain⟨z,hz,h⟩:=h;refine⟨_,_,⟨?_,zCK _ _⟩,h⟩;simp[LO.exec,execOp,Instr.alloc,zBg hz,newVar,newRow]
 case buildSlice T n parts =>
  obtain⟨rfl,h⟩:=h;obtain⟨v,w',⟨hr,he⟩,hk⟩:=zQV h;refine⟨v,w',⟨?_,he⟩,hk⟩;simp only[LO.exec,execOp,zKB];simp[Sem.run_bind,hr]
 case makeMap T r =>
  cases r with
  |none =>obtain⟨rfl,h⟩:=h;refine⟨_,_,⟨?_,zCK _ _⟩,h⟩;simp[LO.exec,execOp,Instr.makeMap]
  |some r=>exact h
 case makeSlice T l k =>
  obtain⟨rfl,h⟩:=h;obtain⟨v,w',⟨hr,he⟩,hk⟩:=zPj h;refine⟨v,w',⟨?_,he⟩,hk⟩;simp[LO.exec,execOp,hr]
 case store T a x =>
  obtain⟨rfl,h⟩:=h;obtain⟨w',hr,hk⟩:=zR4 h;simp only[zAb,zCd,LO.exec,execOp,Sem.run_bind,hr,Result.andThen_ok];exact hk
 case mapUpdate T m k x =>
  obtain⟨rfl,w',hr,hk⟩:=h;simp only[zAb,zCd,LO.exec,execOp,Sem.run_bind,hr,Result.andThen_ok];exact hk
 case mapEntry T m k =>
  obtain⟨rfl,v,w',hr,hk⟩:=h;simp only[zAb,zCd,LO.exec,execOp,Sem.run_bind,hr,Result.andThen_ok];exact hk
 case entryStore T m s x =>
  obtain⟨rfl,w',hr,hk⟩:=h;simp only[zAb,zCd,LO.exec,execOp,Sem.run_bind,hr,Result.andThen_ok];exact hk
 case range T x =>
  obtain⟨rfl,v,w',hr,hk⟩:=h;simp only[zAb,zCd,LO.exec,execOp,Sem.run_bind,hr,Result.andThen_ok];exact hk
 case next x s =>
  obtain⟨rfl,v,w',hr,hk⟩:=h;simp only[zAb,zCd,LO.exec,execOp,Sem.run_bind,hr,Result.andThen_ok];exact hk
 case entry x =>
  obtain⟨rfl,v,w',hr,hk⟩:=h;simp only[zAb,zCd,LO.exec,execOp,Sem.run_bind,hr,Result.andThen_ok];exact hk
 case call cl =>
  obtain⟨callee,args,tys⟩:=cl;cases callee with
  |value f =>obtain⟨rfl,h⟩:=h;have:=zOP h;rw[zBc] at this;simp only[zAb,zCd,LO.exec,execOp,resolve];simpa using this
  |invoke r m=>exact h
  |builtin b =>
   cases b<;>try exact h
   case len =>
    simp only[opS] at h;split at h
    ·rename_i hc;subst hc;obtain⟨v,hv,hk⟩:=h;exact⟨v,fun w' JA=>by simp[LO.exec,execOp,resolve,invoke,builtin,hv w' JA],hk⟩
    ·obtain⟨rfl,h⟩:=h;simp only[zAE] at h;obtain⟨T,ht,x,hx,h⟩:=h;obtain⟨u,hu,hk⟩:=zPp (ty:=ty) h tys (args.map ρ.ev) ht (by simp[hx]);exact⟨u,fun w'=>by simp[LO.exec,execOp,resolve,invoke,builtin,hu],hk⟩
   case min =>
    obtain⟨rfl,h⟩:=h;obtain⟨u,hu,hk⟩:=zM6 (P:=P) (ty:=ty) h tys;refine⟨u,fun w'=>?_,hk⟩;have:=hu w';simp only[Bool.false_eq_true,if_false] at this;have e:(args.toList.map ρ.ev).toArray=args.map ρ.ev:=zBc _ _;rw[e] at this;simp only[LO.exec,execOp,resolve,Sem.run_bind,Sem.run_pure,Result.andThen_ok,invoke,builtin,this]
   case max =>
    obtain⟨rfl,h⟩:=h;obtain⟨u,hu,hk⟩:=zM6 (P:=P) (ty:=ty) h tys;refine⟨u,fun w'=>?_,hk⟩;have:=hu w';simp only[if_true] at this;have e:(args.toList.map ρ.ev).toArray=args.map ρ.ev:=zBc _ _;rw[e] at this;simp only[LO.exec,execOp,resolve,Sem.run_bind,Sem.run_pure,Result.andThen_ok,invoke,builtin,this]
   case append =>
    obtain⟨rfl,v,w',hr,hk⟩:=h;simp only[zAb,zCd,LO.exec,execOp,resolve,Sem.run_bind,Sem.run_pure,Result.andThen_ok,invoke,builtin];have e:(args.toList.map ρ.ev).toArray=args.map ρ.ev:=zBc _ _;rw[e] at hr;simp only[hr,Result.andThen_ok];exact hk
   case copy =>
    obtain⟨rfl,v,w',hr,hk⟩:=h;simp only[zAb,zCd,LO.exec,execOp,resolve,Sem.run_bind,Sem.run_pure,Result.andThen_ok,invoke,builtin];have e:(args.toList.map ρ.ev).toArray=args.map ρ.ev:=zBc _ _;rw[e] at hr;simp only[hr,Result.andThen_ok];exact hk
   case delete =>
    obtain⟨rfl,v,w',hr,hk⟩:=h;simp only[zAb,zCd,LO.exec,execOp,resolve,Sem.run_bind,Sem.run_pure,Result.andThen_ok,invoke,builtin];have e:(args.toList.map ρ.ev).toArray=args.map ρ.ev:=zBc _ _;rw[e] at hr;simp only[hr,Result.andThen_ok];exact hk
 all_goals exact h
end
section
variable {P:Program} {ρ:Env} {w:World} {ty:TypeId}
theorem zQ{α:Type}{o:Option α}{K K':α->Prop}(hK:∀v,K v->K' v)(h:zCj o K):zCj o K':=by
 cases o with
 |none=>exact h
 |some x=>exact hK _ h
section
variable {K K':Value->Prop} (hK:∀v,K v->K' v)
include hK
theorem zLG{a b c:Value}(h:zLH a b c K):zLH a b c K':=by
 unfold zLH at *;split at h
 ·exact hK _ h
 ·cases h
theorem zM2{a:Value}(h:zUI a K):zUI a K':=by
 unfold zUI at *;split at h
 ·exact hK _ h
 ·exact hK _ h
 ·exact hK _ h
 ·cases h
theorem zLX{T k:Nat}{a:Value}(h:zI2 P T k a K):zI2 P T k a K':=by
 unfold zI2 at *;split at h
 ·exact zQ (fun _=>hK _) h
 ·cases h
theorem zNl{T k:Nat}{a:Value}(h:zTG P T k a K):zTG P T k a K':=by
 unfold zTG at *;split at h
 ·exact zQ (fun _=>zQ hK) h
 ·cases h
theorem zLW{T:Nat}{a b:Value}(h:zIx P T a b K):zIx P T a b K':=by
 unfold zIx at *;split at h
 ·exact zQ (fun _=>And.imp_right (hK _)) h
 ·exact zQ (fun _=>And.imp_right (hK _)) h
 ·cases h
theorem zNa{T:Nat}{a b:Value}(h:zTB P T a b K):zTB P T a b K':=by
 unfold zTB at *;split at h
 ·exact zQ (fun _=>And.imp_right (zQ hK)) h
 ·exact⟨h.1,h.2.1,zQ (fun _=>hK _) h.2.2⟩
 ·cases h
theorem zNu{a:Value}{i:Nat}(h:zCZ a i K):zCZ a i K':=by
 unfold zCZ at *;split at h
 ·exact zQ hK h
 ·cases h
theorem zO7{o:UnOp}{a:Value}(h:unS o a K):unS o a K':=by
 unfold unS at *;split at h
 ·exact hK _ h
 ·exact hK _ h
 ·cases h
theorem zQd{x a:Nat}{ok:Bool}{v:Value}(h:asS P x a ok v K):asS P x a ok v K':=by
 unfold asS at *;split at h
 ·refine⟨h.1,?_⟩;have h2:=h.2;split at h2
  ·rename_i hc;rw[if_pos hc];exact hK _ h2
  ·rename_i hc;rw[if_neg hc];exact⟨h2.1,zQ (fun _=>hK _) h2.2⟩
 ·exact⟨h.1,h.2.1,zQ (fun _=>hK _) h.2.2⟩
 ·cases h
theorem zNY{op:BinOp}{k k':IntKind}{a b:Int}(h:zHE op k a k' b K):zHE op k a k' b K':=by
 cases op<;>simp only[zHE,zAi] at h ⊢
 case quo=>exact⟨h.1,h.2.1,hK _ h.2.2⟩
 case rem=>exact⟨h.1,h.2.1,hK _ h.2.2⟩
 all_goals exact⟨h.1,hK _ h.2⟩
theorem zOa{op:BinOp}{T:Nat}{x y:Operand}{u v:Value}(h:zTt P op T x y u v K):zTt P op T x y u v K':=by
 unfold zTt at *
 split at h
 ·exact zNY hK h
 ·cases op<;>simp only[strS,zAi] at h ⊢
  case add=>exact⟨h.1,hK _ h.2⟩
  all_goals first|exact h.elim|exact hK _ h
 ·unfold eqS at *
  split at h
  ·exact zQ (fun _=>hK _) h
  ·exact zQ (fun _=>hK _) h
  ·cases h
theorem zOE{s d:Nat}{v:Value}(h:zTe P s d v K):zTe P s d v K':=by
 unfold zTe at *;split at h
 ·exact zQ (fun _=>And.imp_right (hK _)) h
 ·exact⟨h.1,h.2.1,hK _ h.2.2⟩
 ·cases h
theorem zNI{T:Nat}{v:Value}(h:zSt P T v K):zSt P T v K':=by
 unfold zSt at *;split at h
 ·exact⟨h.1,hK _ h.2⟩
 ·exact⟨h.1,hK _ h.2⟩
 ·cases h
theorem zJ9{isMax:Bool}{k:IntKind}:∀{l:List Value} {x:Int},mmI isMax k x l K->mmI isMax k x l K'
 |[],_,h=>hK _ h
 |.int _ _::l,_,h=>zJ9 (l:=l) h
 |.bool _::_,_,h|.float ..::_,_,h|.complex ..::_,_,h|.string _::_,_,h|.pointer _::_,_,h|.slice ..::_,_,h|.map _::_,_,h|.chan _::_,_,h
 |.func ..::_,_,h|.nilFunc::_,_,h|.iface ..::_,_,h|.nilIface::_,_,h|.agg _::_,_,h|.tuple _::_,_,h=>h.elim
theorem zJ8{isMax:Bool}{l:List Value}(h:mmS isMax l K):mmS isMax l K':=by
 unfold mmS at *;split at h
 ·exact zJ9 hK h
 ·cases h
theorem zPs{T:Nat}{v:Value}(h:ldS P T w v K):ldS P T w v K':=by
 unfold ldS ldK at *;split at h
 ·split at h
  ·exact zQ hK h
  ·exact zQ (fun _=>hK _) h
  ·cases h
 ·cases h
theorem zOZ{T:Nat}{parts:List (Nat×Value)}(h:zUQ P T parts K):zUQ P T parts K':=zQ (fun _=>zQ fun _=>hK _) h
theorem zGU{s:Sem Value}(h:rdS P s w K):rdS P s w K':=by
 obtain⟨v,h1,h2⟩:=h;exact⟨v,h1,hK _ h2⟩
end
theorem zPE{K K':World->Prop}(hK:∀v,K v->K' v){T:Nat}{v x:Value}(h:stS P T w v x K):stS P T w v x K':=by
 unfold stS stC at *;split at h
 ·exact⟨h.1,zQ (fun _=>And.imp_right (hK _)) h.2⟩
 ·cases h
theorem zH2{K K':World->Prop}(hK:∀v,K v->K' v){s:Sem Unit}(h:zUM P s w K):zUM P s w K':=by
 obtain⟨w',h1,h2⟩:=h;exact⟨w',h1,hK _ h2⟩
theorem zKv{K K':Value->World->Prop}(h:∀v w,K v w->K' v w){r:Result Next}(hh:zGN P K r):zGN P K' r:=by
 unfold zGN at *
 cases r with
 |ok n w' =>
  cases n<;>simp only at hh ⊢
  case value v=>exact h _ _ hh
  case skip=>exact h _ _ hh
  case enter f args=>exact hh.mono fun e w'' ⟨v,he,hk⟩=>⟨v,he,h _ _ hk⟩
 |halt x w'=>simp only at hh
theorem zAJ{c:Nat}{op:Op}{ty:TypeId}{ρ:Env}{w:World}{K K':Value->World->Prop}(h:∀v w,K v w->K' v w)(hh:zAb P c op ty ρ w K):zAb P c op ty ρ w K':=by
 unfold zAb at *
 split at hh
 ·obtain⟨v,hv,hk⟩:=hh;exact⟨v,hv,h _ _ hk⟩
 ·obtain⟨v,hv,hk⟩:=hh;exact⟨v,hv,h _ _ hk⟩
 ·obtain⟨v,w',hv,hk⟩:=hh;exact⟨v,w',hv,h _ _ hk⟩
 ·exact zKv h hh
theorem zM8{K K':Value->World->Prop}(hK:∀v w,K v w->K' v w){T:Nat}{l c:Value}(h:zSo P T w l c K):zSo P T w l c K':=by
 unfold zSo at *
 split at h
 ·exact zQ (fun _=>And.imp_right (hK _ _)) h
 ·cases h
theorem zLk{K K':Value->World->Prop}(hK:∀v w,K v w->K' v w){f:Value}{args:List Value}(h:zJH P w f args K):zJH P w f args K':=by
 unfold zJH at *
 split at h
 ·rcases h with h|⟨v,w',hr,hk⟩
  ·exact .inl ⟨h.1,h.2.mono fun e w'' ⟨v,he,hk⟩=>⟨v,he,hK _ _ hk⟩⟩
  ·exact .inr ⟨v,w',hr,hK _ _ hk⟩
 ·cases h
theorem zEH{c:Nat}{op:Op}{K K':Value->World->Prop}(hK:∀v w,K v w->K' v w)(h:opS P c op ty ρ w K):opS P c op ty ρ w K':=by
 cases op
 case move x=>exact⟨h.1,hK _ _ h.2⟩
 case assign x=>exact⟨h.1,hK _ _ h.2⟩
 case pick b x y=>exact⟨h.1,zLG (fun v=>hK v w) h.2⟩
 case build T parts=>exact⟨h.1,zOZ (fun v=>hK v w) h.2⟩
 case nilCheck x=>exact⟨h.1,zM2 (fun v=>hK v w) h.2⟩
 case fieldAddr T x k=>exact⟨h.1,zLX (fun v=>hK v w) h.2⟩
 case field T x k=>exact⟨h.1,zNl (fun v=>hK v w) h.2⟩
 case indexAddr T x i=>exact⟨h.1,zLW (fun v=>hK v w) h.2⟩
 case index T x i=>exact⟨h.1,zNa (fun v=>hK v w) h.2⟩
 case extract x i=>exact⟨h.1,zNu (fun v=>hK v w) h.2⟩
 case unOp o T x=>exact⟨h.1,zO7 (fun v=>hK v w) h.2⟩
 case makeInterface T x=>exact⟨h.1,h.2.1,hK _ _ h.2.2⟩
 case makeFunc fn a b=>exact⟨h.1,hK _ _ h.2⟩
 case slice T x lo hi mx=>obtain⟨h0,v,h1,h2⟩:=h;exact⟨h0,v,h1,hK _ _ h2⟩
 case typeAssert x xT aT ok=>exact⟨h.1,zQd (fun v=>hK v w) h.2⟩
 case binOp o T x y yT =>
  simp only[opS] at h ⊢;split at h
  ·rename_i hc;rw[if_pos hc];exact zGU (fun v=>hK v w) h
  ·rename_i hc;rw[if_neg hc];exact⟨h.1,zOa (fun v=>hK v w) h.2⟩
 case convert s d x =>
  simp only[opS] at h ⊢;split at h
  ·rename_i hc;rw[if_pos hc];obtain⟨v,w',h1,h2⟩:=h;exact⟨v,w',h1,hK _ _ h2⟩
  ·rename_i hc;rw[if_neg hc];exact⟨h.1,zOE (fun v=>hK v w) h.2⟩
 case load T a=>exact⟨h.1,zPs (fun v=>hK v w) h.2⟩
 case lookup T m k ok=>exact⟨h.1,zGU (fun v=>hK v w) h.2⟩
 case box T x=>exact⟨h.1,hK _ _ h.2⟩
 case alloc T=>exact⟨h.1,zQ (fun _=>hK _ _) h.2⟩
 case buildSlice T n parts=>exact⟨h.1,zQ (fun _=>And.imp_right (zQ fun _=>hK _ _)) h.2⟩
 case makeMap T r =>
  cases r with
  |none=>exact⟨h.1,hK _ _ h.2⟩
  |some r=>exact zAJ hK h
 case makeSlice T l k =>
  exact⟨h.1,zM8 hK h.2⟩
 case store T a x=>exact⟨h.1,zPE (fun w'=>hK _ w') h.2⟩
 case mapUpdate T m k x=>exact⟨h.1,zH2 (fun w'=>hK _ w') h.2⟩
 case mapEntry T m k=>obtain⟨h0,v,w',h1,h2⟩:=h;exact⟨h0,v,w',h1,hK _ _ h2⟩
 case entryStore T m s x=>exact⟨h.1,zH2 (fun w'=>hK _ w') h.2⟩
 case range T x=>obtain⟨h0,v,w',h1,h2⟩:=h;exact⟨h0,v,w',h1,hK _ _ h2⟩
 case next x s=>obtain⟨h0,v,w',h1,h2⟩:=h;exact⟨h0,v,w',h1,hK _ _ h2⟩
 case entry x=>obtain⟨h0,v,w',h1,h2⟩:=h;exact⟨h0,v,w',h1,hK _ _ h2⟩
 case call cl =>
  obtain⟨callee,args,tys⟩:=cl;cases callee with
  |value f =>exact⟨h.1,zLk hK h.2⟩
  |invoke r m=>exact zAJ hK h
  |builtin b =>
   cases b<;>try exact zAJ hK h
   case len =>
    simp only[opS] at h ⊢;split at h
    ·rename_i hc;rw[if_pos hc];exact zGU (fun v=>hK v w) h
    ·rename_i hc;rw[if_neg hc];exact⟨h.1,zQ (fun _=>zQ fun _=>zNI (fun v=>hK v w)) h.2⟩
   case min=>exact⟨h.1,zJ8 (fun v=>hK v w) h.2⟩
   case max=>exact⟨h.1,zJ8 (fun v=>hK v w) h.2⟩
   case append=>obtain⟨h0,v,w',h1,h2⟩:=h;exact⟨h0,v,w',h1,hK _ _ h2⟩
   case copy=>obtain⟨h0,v,w',h1,h2⟩:=h;exact⟨h0,v,w',h1,hK _ _ h2⟩
   case delete=>obtain⟨h0,v,w',h1,h2⟩:=h;exact⟨h0,v,w',h1,hK _ _ h2⟩
 all_goals exact zAJ hK h
end
end
section
open Go
section
variable (P:Program)
def gd(v:Value)(b:Bool)(A B:Prop):Prop:=(v=.bool b->A)/\(v≠.bool b->B)
def wpT:List LO->Env->World->(Env->World->Prop)->Prop
 |[],ρ,w,K=>K ρ w
 |⟨c,d,op,ty,none⟩::l,ρ,w,K=>opS P c op ty ρ w fun v w'=>wpT l (ρ.put d v) w' K
 |⟨c,d,op,ty,some (g,b)⟩::l,ρ,w,K=>gd (ρ g) b (opS P c op ty ρ w fun v w'=>wpT l (ρ.put d v) w' K) (wpT l (ρ.put d undef) w K)
end
inductive Ex where
 |nrm
 |exit (id:Nat)
 |ret
inductive LCode where
 |skip
 |region (draw:Bool) (alts:List (List LO)) (outs:List Nat)
 |anyR (los:List LO) (deps:List Nat) (outs:List Nat)
 |seq (a b:LCode)
 |cond (c:Operand) (a b:LCode)
 |block (id:Nat) (c:LCode)
 |loop (c:LCode)
 |exit (id:Nat)
 |ret
section
variable (P:Program)
def wpX:List LO->Env->World->(Env->World->Prop)->Prop
 |[],ρ,w,K=>K ρ w
 |⟨c,d,op,ty,none⟩::l,ρ,w,K=>zAb P c op ty ρ w fun v w'=>wpX l (ρ.put d v) w' K
 |⟨c,d,op,ty,some (g,b)⟩::l,ρ,w,K=>gd (ρ g) b (zAb P c op ty ρ w fun v w'=>wpX l (ρ.put d v) w' K) (wpX l (ρ.put d undef) w K)
end
def zCk(draw:Bool)(w:World):World:=if draw then { w with drawn:=w.drawn+1 } else w
def zCu(K:Env->World->Prop)(Q:Ex->Env->World->Prop):Ex->Env->World->Prop
 |.nrm=>K
 |e=>Q e
def zCn(id:Nat)(Q:Ex->Env->World->Prop):Ex->Env->World->Prop
 |.exit id'=>if id'=id then Q .nrm else Q (.exit id')
 |e=>Q e
def zLe:Value->Prop->Prop->Prop
 |.bool t,A,B=>(t=true->A)/\(t=false->B)
 |_,_,_=>False
theorem zH7{v:Value}{A B:Prop}:zLe v A B<->∃t,v=.bool t/\(t=true->A)/\(t=false->B):=by
 constructor
 ·intro h;unfold zLe at h;split at h
  ·exact⟨_,rfl,h⟩
  ·cases h
 ·rintro⟨t,rfl,h⟩;exact h
def zCh(P:Program)(ρ:Env)(w:World)(K:Env->World->Prop):List (List LO)->Prop
 |[]=>True
 |[l]=>wpT P l ρ w K
 |l::ls=>wpT P l ρ w K/\zCh P ρ w K ls
def LO.dfl:LO:=⟨0,none,.move (.const undef),0,none⟩
def zCI(los:List LO)(l:List Nat):List LO:=l.map fun i=>los.getD i LO.dfl
def wpL(P:Program):LCode->(Ex->Env->World->Prop)->Env->World->Prop
 |.skip,Q,ρ,w=>Q .nrm ρ w
 |.region draw alts outs,Q,ρ,w=>zCh P ρ (zCk draw w) (fun ρ' w'=>Q .nrm (ρ.merge ρ' outs) w') alts
 |.anyR los deps outs,Q,ρ,w=>∀l:List Nat,l.Perm (List.range los.length)->zFa deps los.length l->wpX P (zCI los l) ρ (zCk true w) fun ρ' w'=>Q .nrm (ρ.merge ρ' outs) w'
 |.seq a b,Q,ρ,w=>wpL P a (zCu (wpL P b Q) Q) ρ w
 |.cond c a b,Q,ρ,w=>zLe (ρ.ev c) (wpL P a Q ρ w) (wpL P b Q ρ w)
 |.block id c,Q,ρ,w=>wpL P c (zCn id Q) ρ w
 |.loop c,Q,ρ,w=>∃I:Nat->Env->World->Prop,(∃n,I n ρ w)/\∀n ρ' w',I n ρ' w'->wpL P c (zCu (fun ρ'' w''=>∃m,m<n/\I m ρ'' w'') Q) ρ' w'
 |.exit id,Q,ρ,w=>Q (.exit id) ρ w
 |.ret,Q,ρ,w=>Q .ret ρ w
section
variable {P:Program}
theorem zC9{K K':Env->World->Prop}(h:∀ρ w,K ρ w->K' ρ w):∀(l:List LO) (ρ:Env) (w:World),wpT P l ρ w K->wpT P l ρ w K'
 |[],_,_,hh=>h _ _ hh
 |⟨c,d,op,ty,none⟩::l,ρ,w,hh=>by simp only[wpT] at hh ⊢;exact zEH (fun v w' hk=>zC9 h l _ _ hk) hh
 |⟨c,d,op,ty,some (g,b)⟩::l,ρ,w,hh=>by simp only[wpT,gd] at hh ⊢;exact⟨fun e=>zEH (fun v w' hk=>zC9 h l _ _ hk) (hh.1 e),fun e=>zC9 h l _ _ (hh.2 e)⟩
theorem zD9{K K':Env->World->Prop}(h:∀ρ w,K ρ w->K' ρ w):∀(l:List LO) (ρ:Env) (w:World),wpX P l ρ w K->wpX P l ρ w K'
 |[],_,_,hh=>h _ _ hh
 |⟨c,d,op,ty,none⟩::l,ρ,w,hh=>by simp only[wpX] at hh ⊢;exact zAJ (fun v w' hk=>zD9 h l _ _ hk) hh
 |⟨c,d,op,ty,some (g,b)⟩::l,ρ,w,hh=>by simp only[wpX,gd] at hh ⊢;exact⟨fun e=>zAJ (fun v w' hk=>zD9 h l _ _ hk) (hh.1 e),fun e=>zD9 h l _ _ (hh.2 e)⟩
theorem zDa{ρ:Env}{w:World}{K:Env->World->Prop}:∀(ls:List (List LO)),zCh P ρ w K ls<->∀l∈ls,wpT P l ρ w K
 |[]=>by simp[zCh]
 |[l]=>by simp[zCh]
 |l::l'::ls=>by
  have:=zDa (ρ:=ρ) (w:=w) (K:=K) (l'::ls);simp only[zCh,this,List.mem_cons];constructor
  ·rintro⟨h1,h2⟩ x (rfl|hx)
   ·exact h1
   ·exact h2 x hx
  ·intro h;exact⟨h l (.inl rfl),fun x hx=>h x (.inr hx)⟩
theorem zBD:∀(c:LCode) {Q Q':Ex->Env->World->Prop} {ρ:Env} {w:World},(∀e ρ w,Q e ρ w->Q' e ρ w)->wpL P c Q ρ w->wpL P c Q' ρ w
 |.skip,Q,Q',ρ,w,h,hh=>h _ _ _ hh
 |.exit _,Q,Q',ρ,w,h,hh=>h _ _ _ hh
 |.ret,Q,Q',ρ,w,h,hh=>h _ _ _ hh
 |.region draw alts outs,Q,Q',ρ,w,h,hh=>by simp only[wpL,zDa] at hh ⊢;exact fun l hl=>zC9 (fun _ _=>h _ _ _) l ρ _ (hh l hl)
 |.anyR los deps outs,Q,Q',ρ,w,h,hh=>by simp only[wpL] at hh ⊢;exact fun l hl hd=>zD9 (fun _ _=>h _ _ _) _ ρ _ (hh l hl hd)
 |.seq a b,Q,Q',ρ,w,h,hh=>by
  simp only[wpL] at hh ⊢;refine zBD a ?_ hh;intro e ρ w hk;cases e<;>simp only[zCu] at hk ⊢
  ·exact zBD b h hk
  ·exact h _ _ _ hk
  ·exact h _ _ _ hk
 |.cond c a b,Q,Q',ρ,w,h,hh=>by simp only[wpL,zH7] at hh ⊢;obtain⟨t,h1,h2,h3⟩:=hh;exact⟨t,h1,fun e=>zBD a h (h2 e),fun e=>zBD b h (h3 e)⟩
 |.block id c,Q,Q',ρ,w,h,hh=>by
  simp only[wpL] at hh ⊢;refine zBD c ?_ hh;intro e ρ w hk;cases e<;>simp only[zCn] at hk ⊢
  ·exact h _ _ _ hk
  ·split<;>rename_i JA<;>simp only[JA,if_true,if_false] at hk<;>exact h _ _ _ hk
  ·exact h _ _ _ hk
 |.loop c,Q,Q',ρ,w,h,hh=>by
  simp only[wpL] at hh ⊢;obtain⟨I,h0,h1⟩:=hh;refine⟨I,h0,fun n ρ' w' hI=>zBD c ?_ (h1 n ρ' w' hI)⟩;intro e ρ w hk;cases e<;>simp only[zCu] at hk ⊢
  ·exact hk
  ·exact h _ _ _ hk
  ·exact h _ _ _ hk
end
def zBs(M:Nat)(xs:Array Operand):Bool:=xs.toList.all fun
 |.tmp t=>M.testBit t
 |_=>true
def zIs:Op->Bool
 |.select ..=>true
 |_=>false
def lowGuard(ops:Array Oper)(M:Nat):Option (Nat×Bool)->Option (Option (Nat×Bool))
 |none=>some none
 |some (j,b)=>match (ops[j]?).bind (·.dst) with
  |some s=>if M.testBit s then some (some (s,b)) else none
  |none=>none
def zQM(n:Nat):Option Nat->Bool
 |some d=>decide (d<n)
 |none=>true
def zD3(M:Nat):Option Nat->Nat
 |some d=>M ||| 2^d
 |none=>M
def lowOps(types:Array TypeInfo)(ops:Array Oper)(n:Nat):Nat->List Nat->Option (List LO)
 |_,[]=>some []
 |M,i::l =>
  match ops[i]? with
  |none=>none
  |some o =>
  if zBs M o.op.operands && !zIs o.op&&zQM n o.dst then
   match lowGuard ops M o.guard with
   |none=>none
   |some g=>match lowOps types ops n (zD3 M o.dst) l with
    |none=>none
    |some r=>some (⟨cls types o.op,o.dst,o.op,o.type,g⟩::r)
  else none
def lowAll(types:Array TypeInfo)(ops:Array Oper)(n G:Nat):List (List Nat)->Option (List (List LO))
 |[]=>some []
 |r::rs=>match lowOps types ops n G r,lowAll types ops n G rs with
  |some l,some ls=>some (l::ls)
  |_,_=>none
def zF4(G:Nat)(ops:List Oper):List Nat:=((ops.filterMap (·.dst)).filter (G.testBit ·)).eraseDups
def zHn(ops:Array Oper)(G bits:Nat):Nat->Nat
 |0=>G
 |k+1=>if bits.testBit k then zD3 (zHn ops G bits k) ((ops[k]?).bind (·.dst)) else zHn ops G bits k
def lowAt(types:Array TypeInfo)(ops:Array Oper)(n G:Nat)(cert:List Nat)(i:Nat):Option LO :=
 match ops[i]? with
 |none=>none
 |some o=>if zBs (zHn ops G (cert.getD i 0) ops.size) o.op.operands && !zIs o.op&&zQM n o.dst then
   match lowGuard ops (zHn ops G (cert.getD i 0) ops.size) o.guard with
   |none=>none
   |some g=>some ⟨cls types o.op,o.dst,o.op,o.type,g⟩
  else none
def lowEach(types:Array TypeInfo)(ops:Array Oper)(n G:Nat)(cert:List Nat):List Nat->Option (List LO)
 |[]=>some []
 |i::l=>match lowAt types ops n G cert i,lowEach types ops n G cert l with
  |some a,some r=>some (a::r)
  |_,_=>none
def lowAny(types:Array TypeInfo)(ops:Array Oper)(n G:Nat):Option LCode :=
 if zFT ops&&zIB ops (zDx ops) then
  match lowEach types ops n G (zDx ops) (List.range ops.size) with
  |some los=>some (.anyR los (zDx ops) (zF4 G ops.toList))
  |none=>none
 else none
def zHy(types:Array TypeInfo)(ops:Array Oper):Option (List (List Nat)) :=
 if 11<(ops.toList.filter fun o=>decide (1<=cls types o.op)).length then none else match zEG types ops with
 |some reps=>if reps.length<=20 then some reps else none
 |none=>none
def lower(types:Array TypeInfo)(G n:Nat):Code->Option LCode
 |.skip=>some .skip
 |.region _ ops draw =>
  match (if draw then zHy types ops else some [List.range ops.size]) with
  |none=>lowAny types ops n G
  |some reps=>match lowAll types ops n G reps with
   |some ls=>some (.region draw ls (zF4 G ops.toList))
   |none=>none
 |.seq a b=>match lower types G n a,lower types G n b with
  |some a,some b=>some (.seq a b)
  |_,_=>none
 |.cond c a b=>if zBs G #[c] then match lower types G n a,lower types G n b with
  |some a,some b=>some (.cond c a b)
  |_,_=>none
  else none
 |.block id c=>match lower types G n c with
  |some c=>some (.block id c)
  |none=>none
 |.loop c=>match lower types G n c with
  |some c=>some (.loop c)
  |none=>none
 |.exit id=>some (.exit id)
 |.ret=>some .ret
 |_=>none
structure LFn where
 body:LCode
 results:List ResultVar
def zMa(G:Nat)(rs:List ResultVar):Bool:=rs.all fun
 |.tmp t=>G.testBit t
 |.cell a _=>G.testBit a
def lowerFn(types:Array TypeInfo)(G:Nat)(fn:Func):Option LFn :=
 match fn.body with
 |none=>none
 |some c=>if zMa G fn.results.toList then match lower types G fn.ntmps c with
  |some l=>some ⟨l,fn.results.toList⟩
  |none=>none
  else none
def zBq(M n:Nat)(a:Act)(ρ:Env):Prop:=a.defers=[]/\a.tmps.size=n/\∀t,M.testBit t=true->a.tmps.getD t undef=ρ t
theorem zAI{M d t:Nat}:(zD3 M (some d)).testBit t=(M.testBit t||decide (d=t)):=by
 simp only[zD3,Nat.testBit_or,Nat.testBit_two_pow]
theorem zP9{xs:Array Value}{d t:Nat}{v:Value}:(xs.setIfInBounds d v).getD t undef=if t=d/\d<xs.size then v else xs.getD t undef:=by
 simp only[Array.getD_eq_getD_getElem?,Array.getElem?_setIfInBounds];by_cases h:d=t
 ·subst h;by_cases h2:d<xs.size
  ·simp[h2]
  ·simp[h2]
 ·rw[if_neg h,if_neg (by intro hh;exact h hh.1.symm)]
theorem zBq.put{M n:Nat}{a:Act}{ρ:Env}(h:zBq M n a ρ){d:Option Nat}(hd:zQM n d=true)(v:Value):zBq (zD3 M d) n (a.put d v) (ρ.put d v):=by
 cases d with
 |none=>exact h
 |some d =>
  obtain⟨h1,h2,h3⟩:=h;have JB:d<n:=by simpa[zQM] using hd
  refine⟨h1,by simpa[Act.put] using h2,fun t ht=>?_⟩;rw[zAI] at ht;simp only[Act.put,Env.put,Env.set,zP9];by_cases JA:t=d
  ·subst JA;simp[h2,JB]
  ·rw[if_neg (by intro hh;exact JA hh.1),if_neg JA];refine h3 t ?_;have:¬d=t:=fun e=>JA e.symm;simpa[this] using ht
theorem zBq.eval{M n:Nat}{a:Act}{ρ:Env}(h:zBq M n a ρ){xs:Array Operand}(hr:zBs M xs=true):∀x∈xs,a.eval x=ρ.ev x:=by
 intro x hx;have:=List.all_eq_true.1 hr x (by simpa using hx);cases x with
 |tmp t=>exact h.2.2 t this
 |const v=>rfl
 |global g=>rfl
 |func f=>rfl
theorem zLY{M n:Nat}{a:Act}{ρ:Env}(h:zBq M n a ρ){o:Oper}(hr:zBs M o.op.operands=true)(hs:zIs o.op=false):execOp a.eval o=LO.exec o.op o.type ρ:=by
 have:=execOp_congr (ρ:=a.eval) (ρ':=ρ.ev) o (fun cs b he=>by rw[he] at hs;cases hs) (h.eval hr);rw[this];rfl
def zBN(ρ:Env)(wt:Bool):Option (Nat×Bool)->Prop
 |none=>wt=true
 |some (s,b)=>wt=true<->ρ s=.bool b
theorem zE7{M n:Nat}{a:Act}{ρ:Env}(h:zBq M n a ρ){ops:Array Oper}{o:Oper}{g:Option (Nat×Bool)}(hg:lowGuard ops M o.guard=some g) :
  zBN ρ (zz ops o a) g:=by
 unfold zz Region.wanted;cases JA:o.guard with
 |none =>rw[JA] at hg;simp only[lowGuard,Option.some.injEq] at hg;subst hg;simp[zBN]
 |some jb =>
  obtain⟨j,b⟩:=jb;rw[JA] at hg;simp only[lowGuard] at hg;split at hg
  ·rename_i s hs;split at hg
   ·rename_i hM;simp only[Option.some.injEq] at hg;subst hg;simp only[zBN];unfold yielded;rw[hs];simp only[Option.bind_some];have h3:=h.2.2 s hM;simp only[Array.getD_eq_getD_getElem?] at h3;cases hx:a.tmps[s]? with
    |none =>rw[hx] at h3;simp only[Option.getD_none] at h3;rw[<-h3];simp[undef]
    |some x =>rw[hx] at h3;simp only[Option.getD_some] at h3;rw[<-h3];cases x<;>simp
   ·cases hg
  ·cases hg
section
variable {P:Program} {types:Array TypeInfo} {ops:Array Oper} {n:Nat}
theorem zCS{M:Nat}{a:Act}{ρ:Env}(h:zBq M n a ρ){o:Oper}(hr:zBs M o.op.operands=true)(hs:zIs o.op=false){c:Nat}{w:World}{K:Value->World->Prop}
  (hk:zAb P c o.op o.type ρ w K):zCv P c o a w K:=by
 unfold zAb at hk;unfold zCv;have he:=zLY h hr hs;split
 ·obtain⟨v,hv,hk⟩:=hk;exact⟨v,fun w'=>by rw[he];exact hv w',hk⟩
 ·obtain⟨v,hv,hk⟩:=hk;exact⟨v,fun w' JA=>by rw[he];exact hv w' JA,hk⟩
 ·obtain⟨v,w',⟨hv,hx⟩,hk⟩:=hk;exact⟨v,w',⟨by rw[he];exact hv,hx⟩,hk⟩
 ·split at hk
  ·rename_i h0 _ _ ;exact absurd rfl h0
  ·rename_i h0 h1 _ ;exact absurd rfl (by assumption)
  ·rename_i h0 h1 _ ;exact absurd rfl (by assumption)
  ·unfold stepE;rw[he];unfold zCd zGN at hk;exact hk
theorem zO1{G:Nat}{ρ0:Env}{K:Env->World->Prop}{Q:Act->World->Prop}(D:Nat->Prop)
  (hQ:∀M a ρ w,(∀t,G.testBit t=true->M.testBit t=true)->zBq M n a ρ->(∀t,¬D t->ρ t=ρ0 t)->K ρ w->Q a w) (JF:∀(i:Nat) (o:Oper),ops[i]? = some o->∀d,o.dst=some d->D d) :
  ∀(l:List Nat) (M:Nat) (ll:List LO) (a:Act) (ρ:Env) (w:World),lowOps types ops n M l=some ll->(∀t,G.testBit t=true->M.testBit t=true)->zBq M n a ρ ->
  (∀t,¬D t->ρ t=ρ0 t)->wpT P ll ρ w K->wpN P types ops Q l a w:=by
 intro l
 induction l with
 |nil =>intro M ll a ρ w hl hG ha hD h;simp only[lowOps,Option.some.injEq] at hl;subst hl;exact hQ M a ρ w hG ha hD h
 |cons i l ih =>
  intro M ll a ρ w hl hG ha hD h;simp only[lowOps] at hl;split at hl
  ·cases hl
  ·rename_i o JE;split at hl
   ·rename_i JD;simp only[Bool.and_eq_true,Bool.not_eq_true'] at JD;obtain⟨⟨hr,hs⟩,JC⟩:=JD;split at hl
    ·cases hl
    ·rename_i g hg;split at hl
     ·cases hl
     ·rename_i r JA;simp only[Option.some.injEq] at hl;subst hl;have JG:∀t,G.testBit t=true->(zD3 M o.dst).testBit t=true:=by
       intro t ht;cases hd:o.dst with
       |none=>exact hG t ht
       |some d=>rw[zAI,hG t ht];rfl
      have JH:∀v,∀t,¬D t->(ρ.put o.dst v) t=ρ0 t:=by
       intro v t ht;cases hd:o.dst with
       |none=>exact hD t ht
       |some d =>have:t≠d:=fun e=>ht (e ▸ JF i o JE d hd);simp only[Env.put,Env.set,if_neg this];exact hD t ht
      have next:∀v w',wpT P r (ρ.put o.dst v) w' K->wpN P types ops Q l (a.put o.dst v) w':=fun v w' hh =>
       ih _ r _ _ w' JA JG (ha.put JC v) (JH v) hh
      have JB:=zE7 ha hg;unfold wpN stI;simp only[JE];cases g with
      |none =>simp only[zBN] at JB;rw[if_pos JB];simp only[wpT] at h;exact zCS ha hr hs (zBM (zEH next h))
      |some sb =>
       obtain⟨s,b⟩:=sb;simp only[zBN] at JB;simp only[wpT,gd] at h;split
       ·rename_i hw;exact zCS ha hr hs (zBM (zEH next (h.1 (JB.1 hw))))
       ·rename_i hw;exact next _ _ (h.2 fun e=>hw (JB.2 e))
   ·cases hl
theorem zO0{G:Nat}{ρ0:Env}{K:Env->World->Prop}{Q:Act->World->Prop}(D:Nat->Prop)
  (hQ:∀M a ρ w,(∀t,G.testBit t=true->M.testBit t=true)->zBq M n a ρ->(∀t,¬D t->ρ t=ρ0 t)->K ρ w->Q a w) (JF:∀(i:Nat) (o:Oper),ops[i]? = some o->∀d,o.dst=some d->D d) :
  ∀(l:List Nat) (M:Nat) (ll:List LO) (a:Act) (ρ:Env) (w:World),lowOps types ops n M l=some ll->(∀t,G.testBit t=true->M.testBit t=true)->zBq M n a ρ ->
  (∀t,¬D t->ρ t=ρ0 t)->wpX P ll ρ w K->wpN P types ops Q l a w:=by
 intro l
 induction l with
 |nil =>intro M ll a ρ w hl hG ha hD h;simp only[lowOps,Option.some.injEq] at hl;subst hl;exact hQ M a ρ w hG ha hD h
 |cons i l ih =>
  intro M ll a ρ w hl hG ha hD h;simp only[lowOps] at hl;split at hl
  ·cases hl
  ·rename_i o JE;split at hl
   ·rename_i JD;simp only[Bool.and_eq_true,Bool.not_eq_true'] at JD;obtain⟨⟨hr,hs⟩,JC⟩:=JD;split at hl
    ·cases hl
    ·rename_i g hg;split at hl
     ·cases hl
     ·rename_i r JA;simp only[Option.some.injEq] at hl;subst hl;have JG:∀t,G.testBit t=true->(zD3 M o.dst).testBit t=true:=by
       intro t ht;cases hd:o.dst with
       |none=>exact hG t ht
       |some d=>rw[zAI,hG t ht];rfl
      have JH:∀v,∀t,¬D t->(ρ.put o.dst v) t=ρ0 t:=by
       intro v t ht;cases hd:o.dst with
       |none=>exact hD t ht
       |some d =>have:t≠d:=fun e=>ht (e ▸ JF i o JE d hd);simp only[Env.put,Env.set,if_neg this];exact hD t ht
      have next:∀v w',wpX P r (ρ.put o.dst v) w' K->wpN P types ops Q l (a.put o.dst v) w':=fun v w' hh =>
       ih _ r _ _ w' JA JG (ha.put JC v) (JH v) hh
      have JB:=zE7 ha hg;unfold wpN stI;simp only[JE];cases g with
      |none =>simp only[zBN] at JB;rw[if_pos JB];simp only[wpX] at h;exact zCS ha hr hs (zAJ next h)
      |some sb =>
       obtain⟨s,b⟩:=sb;simp only[zBN] at JB;simp only[wpX,gd] at h;split
       ·rename_i hw;exact zCS ha hr hs (zAJ next (h.1 (JB.1 hw)))
       ·rename_i hw;exact next _ _ (h.2 fun e=>hw (JB.2 e))
   ·cases hl
theorem lowAll_mem{G:Nat}:∀{reps:List (List Nat)} {ls:List (List LO)},lowAll types ops n G reps=some ls->∀r∈reps,∃l∈ls,lowOps types ops n G r=some l
 |[],_,_,r,hr=>by cases hr
 |r0::rs,ls,h,r,hr=>by
  simp only[lowAll] at h;split at h
  ·rename_i l0 ls0 h1 h2;simp only[Option.some.injEq] at h;subst h;rcases List.mem_cons.1 hr with rfl|hr
   ·exact⟨l0,by simp,h1⟩
   ·obtain⟨l,hl,he⟩:=lowAll_mem h2 r hr;exact⟨l,by simp[hl],he⟩
  ·cases h
theorem zDL{G bits t:Nat}:∀(k:Nat),(zHn ops G bits k).testBit t=true->G.testBit t=true\/∃j,j<k/\bits.testBit j=true/\(ops[j]?).bind (·.dst)=some t
 |0,h=>.inl h
 |k+1,h=>by
  simp only[zHn] at h;split at h
  ·rename_i hb;cases hd:(ops[k]?).bind (·.dst) with
   |none =>
    rw[hd] at h;rcases zDL k h with h1|⟨j,hj,h1⟩
    ·exact .inl h1
    ·exact .inr ⟨j,by omega,h1⟩
   |some d =>
    rw[hd,zAI] at h;simp only[Bool.or_eq_true,decide_eq_true_eq] at h;rcases h with h|rfl
    ·rcases zDL k h with h1|⟨j,hj,h1⟩
     ·exact .inl h1
     ·exact .inr ⟨j,by omega,h1⟩
    ·exact .inr ⟨k,by omega,hb,hd⟩
  ·rcases zDL k h with h1|⟨j,hj,h1⟩
   ·exact .inl h1
   ·exact .inr ⟨j,by omega,h1⟩
theorem zHf{M M':Nat}(hm:∀t,M.testBit t=true->M'.testBit t=true){xs:Array Operand}(h:zBs M xs=true):zBs M' xs=true:=by
 simp only[zBs,List.all_eq_true] at h ⊢;intro x hx;have:=h x hx;cases x<;>simp_all
theorem lowGuard_mono{M M':Nat}(hm:∀t,M.testBit t=true->M'.testBit t=true){g:Option (Nat×Bool)}{r:Option (Nat×Bool)}(h:lowGuard ops M g=some r):lowGuard ops M' g=some r:=by
 cases g with
 |none=>exact h
 |some jb =>
  obtain⟨j,b⟩:=jb;simp only[lowGuard] at h ⊢;cases hd:(ops[j]?).bind (·.dst) with
  |none=>rw[hd] at h;cases h
  |some s =>
   rw[hd] at h;simp only at h ⊢;split at h
   ·rename_i hs;rw[if_pos (hm s hs)];exact h
   ·cases h
theorem lowEach_at{G:Nat}{cert:List Nat}:∀{l:List Nat} {los:List LO},lowEach types ops n G cert l=some los->los.length=l.length/\∀(k:Nat) (i:Nat),l[k]? = some i->lowAt types ops n G cert i=some (los.getD k LO.dfl)
 |[],los,h=>by simp only[lowEach,Option.some.injEq] at h;subst h;simp
 |i::l,los,h=>by
  simp only[lowEach] at h;split at h
  ·rename_i a r h1 h2;simp only[Option.some.injEq] at h;subst h;obtain⟨e1,e2⟩:=lowEach_at h2;refine⟨by simp[e1],fun k j hk=>?_⟩;cases k with
   |zero=>simp at hk;subst hk;simpa using h1
   |succ k=>simp at hk;have:=e2 k j hk;simpa using this
  ·cases h
theorem lowOps_any{G:Nat}{cert:List Nat}{los:List LO}(JC:∀i,i<ops.size->lowAt types ops n G cert i=some (los.getD i LO.dfl)):∀(l:List Nat) (M:Nat),(∀i∈l,i<ops.size) ->
  (∀l1 i l2,l=l1++i::l2->∀t,(zHn ops G (cert.getD i 0) ops.size).testBit t=true->M.testBit t=true\/∃j∈l1,(ops[j]?).bind (·.dst)=some t) ->
  lowOps types ops n M l=some (zCI los l):=by
 intro l
 induction l with
 |nil=>intro M _ _;rfl
 |cons i l ih =>
  intro M JF hd;have hi:=JF i (by simp);have JA:=JC i hi;have hm:∀t,(zHn ops G (cert.getD i 0) ops.size).testBit t=true->M.testBit t=true:=fun t ht=>by
   rcases hd [] i l rfl t ht with h|⟨j,hj,_⟩
   ·exact h
   ·cases hj
  simp only[lowOps];unfold lowAt at JA;split at JA
  ·cases JA
  ·rename_i o ho;split at JA
   ·rename_i JE;simp only[Bool.and_eq_true,Bool.not_eq_true'] at JE;obtain⟨⟨hr,hs⟩,JD⟩:=JE;split at JA
    ·cases JA
    ·rename_i g hg;simp only[Option.some.injEq] at JA;rw[if_pos (by simp[zHf hm hr,hs,JD]),lowGuard_mono hm hg];simp only;have JB:=ih (zD3 M o.dst) (fun k hk=>JF k (by simp[hk])) (fun l1 k l2 he t ht=>by
      rcases hd (i::l1) k l2 (by rw[he];rfl) t ht with h|⟨j,hj,h⟩
      ·left;cases JG:o.dst with
       |none=>exact h
       |some d=>rw[zAI,h];rfl
      ·rcases List.mem_cons.1 hj with rfl|hj
       ·left;rw[ho] at h;simp only[Option.bind_some] at h;rw[h,zAI];simp
       ·exact .inr ⟨j,hj,h⟩)
     rw[JB];simp only[zCI,List.map_cons,<-JA]
   ·cases JA
theorem zGL{id:Nat}{Q:Exit->Act->World->Prop}{a:Act}{w:World}(hm:P.follows .mixedOrders=true)(JA:(zFT ops&&zIB ops (zDx ops))=true)
  (h:∀l:List Nat,l.Perm (List.range ops.size)->zFa (zDx ops) ops.size l->wpN P types ops (fun a' w'=>Q .normal a' w') l a { w with drawn:=w.drawn+1 }):(Code.region id ops true).wp P Q a w:=by
 simp only[Bool.and_eq_true] at JA;refine wp_region_draw fun t=>?_;simp only[Region.schedule,hm,Bool.true_or,if_true];obtain⟨l,hl,hp,he⟩:=zFy JA.1 t;rw[hl];exact zCR _ _ _ (h l hp (zGB JA.1 JA.2 hp he))
theorem zGj(ρ ρ':Env)(t:Nat):∀(l:List Nat),(ρ.merge ρ' l) t=if t∈l then ρ' t else ρ t
 |[]=>by simp[Env.merge]
 |d::l=>by
  simp only[Env.merge,Env.set,zGj ρ ρ' t l,List.mem_cons];by_cases h:t=d
  ·simp[h]
  ·simp[h]
def zE3(G n:Nat)(Q:Ex->Env->World->Prop):Exit->Act->World->Prop
 |.normal,a,w=>∃ρ,zBq G n a ρ/\Q .nrm ρ w
 |.exit id,a,w=>∃ρ,zBq G n a ρ/\Q (.exit id) ρ w
 |.ret,a,w=>∃ρ,zBq G n a ρ/\Q .ret ρ w
 |_,_,_=>False
theorem zKr{c:Code}{Q:Exit->Act->World->Prop}{a:Act}{w:World}(I:Nat->Act->World->Prop)(m0:Nat)(h₀:I m0 a w)
  (round:∀m a w,I m a w->c.wp P (Exit.then (fun a' w'=>∃m',m'<m/\I m' a' w') Q) a w):(Code.loop c).wp P Q a w:=by
 intro b k cs;have key:∀n a w,I n a w ->
   ∃e a' w',Q e a' w'/\Arrives P (lone (b.at a (.code c::.inLoop c::k)) cs w) b k cs e a' w':=by
  intro n
  induction n using Nat.strongRecOn with
  |_ n ih =>
   intro a w hI;obtain⟨e,a₁,w₁,hq,JA⟩:=round n a w hI b (.inLoop c::k) cs;cases e with
   |normal =>obtain⟨m',JB,hI₁⟩:=hq;obtain⟨e₂,a₂,w₂,hq₂,harr₂⟩:=ih m' JB a₁ w₁ hI₁;exact⟨e₂,a₂,w₂,hq₂,.of_steps (Steps.trans JA (.one step_inLoop)) harr₂⟩
   |exit id=>exact⟨_,a₁,w₁,hq,.pass (x:=.inLoop c) rfl (fun _ _=>.inl (by simp)) JA⟩
   |goto l=>exact⟨_,a₁,w₁,hq,.pass (x:=.inLoop c) rfl (fun _ _=>.inl (by simp)) JA⟩
   |ret=>exact⟨_,a₁,w₁,hq,.pass (x:=.inLoop c) rfl (fun _ _=>.inl (by simp)) JA⟩
   |panic ch=>exact⟨_,a₁,w₁,hq,.pass (x:=.inLoop c) rfl (fun _ _=>.inl (by simp)) JA⟩
   |outgrown=>exact⟨_,a₁,w₁,hq,.pass (x:=.inLoop c) rfl (fun _ _=>.inl (by simp)) JA⟩
 obtain⟨e,a',w',hq,JA⟩:=key _ a w h₀;exact⟨e,a',w',hq,.of_steps (.one step_loop) JA⟩
theorem Exit.then_lift{G:Nat}{K:Act->World->Prop}{Q:Ex->Env->World->Prop}{K':Env->World->Prop}(h:∀a ρ w,zBq G n a ρ->K' ρ w->K a w) :
  ∀e a w,zE3 G n (zCu K' Q) e a w->Exit.then K (zE3 G n Q) e a w:=by
 intro e a w hh;cases e<;>simp only[zE3,zCu] at hh<;>simp only[Exit.then,zE3]
 case normal=>obtain⟨ρ,h1,h2⟩:=hh;exact h a ρ w h1 h2
 all_goals exact hh
theorem zD2{G:Nat}{l:List Oper}{t:Nat}(hG:G.testBit t=true)(h:∃o∈l,o.dst=some t):t∈zF4 G l:=by
 obtain⟨o,ho,hd⟩:=h;simp only[zF4,List.mem_eraseDups,List.mem_filter,List.mem_filterMap];exact⟨⟨o,ho,hd⟩,hG⟩
theorem sound{G:Nat}(hm:P.follows .mixedOrders=true):∀(c:Code) (lc:LCode) (Q:Ex->Env->World->Prop) (a:Act) (ρ:Env) (w:World),lower types G n c=some lc->zBq G n a ρ->wpL P lc Q ρ w ->
  c.wp P (zE3 G n Q) a w:=by
 intro c
 induction c with
 |skip =>intro lc Q a ρ w hl ha h;simp only[lower,Option.some.injEq] at hl;subst hl;exact wp_skip ⟨ρ,ha,h⟩
 |region id ops draw =>
  intro lc Q a ρ w hl ha h;simp only[lower] at hl;split at hl
  ·rename_i JD;have JE:draw=true:=by
    cases draw with
    |true=>rfl
    |false=>simp at JD
   subst JE;unfold lowAny at hl;split at hl
   ·rename_i JN;split at hl
    ·rename_i los JI;simp only[Option.some.injEq] at hl;subst hl;simp only[wpL] at h;obtain⟨JC,JT⟩:=lowEach_at JI;have JC:los.length=ops.size:=by simpa using JC
     rw[JC] at h;refine zGL (types:=types) hm JN fun l hl hD=>?_;have JH:=lowOps_any (types:=types) (n:=n) (G:=G) (cert:=zDx ops) (los:=los) (fun i hi=>JT i i (by simp[hi])) l G (fun i hi=>List.mem_range.1 (hl.subset hi)) (fun l1 i l2 he t ht=>by
      rcases zDL _ ht with h1|⟨j,hj,hb,hd⟩
      ·exact .inl h1
      ·have JR:i<ops.size:=List.mem_range.1 (hl.subset (by rw[he];simp));obtain⟨r1,r2,e1,e2⟩:=hD i JR j hj hb;have JM:l.Nodup:=hl.symm.nodup List.nodup_range;rw[he] at e1 JM;have:=(zAD JM e1).1;exact .inr ⟨j,by rw[this];exact e2,hd⟩)
     have h':=h l hl hD;refine zO0 (P:=P) (types:=types) (Q:=fun a' w'=>zE3 G n Q .normal a' w') (fun t=>∃o∈ops.toList,o.dst=some t) (ρ0:=ρ) (G:=G)
      (K:=fun ρ' w'=>Q .nrm (ρ.merge ρ' (zF4 G ops.toList)) w') ?_ ?_ l G _ a ρ _ JH (fun _ h=>h) ha (fun _ _=>rfl) (by simpa[zCk] using h')
     ·intro M a' ρ' w' JL JB hD hk;refine⟨_,⟨JB.1,JB.2.1,fun t ht=>?_⟩,hk⟩;rw[zGj,JB.2.2 t (JL t ht)];split
      ·rfl
      ·rename_i JD;exact hD t fun hx=>JD (zD2 ht hx)
     ·intro i o JG d hd;have:=Array.getElem?_eq_some_iff.1 JG;exact⟨o,by rw[<-this.2];simp,hd⟩
    ·cases hl
   ·cases hl
  ·rename_i reps JA;split at hl
   ·rename_i ls JP;simp only[Option.some.injEq] at hl;subst hl;simp only[wpL,zDa] at h;have hT:∀rep∈reps,wpN P types ops (fun a' w'=>zE3 G n Q .normal a' w') rep a (zCk draw w):=by
     intro rep JF;obtain⟨l,hl,JQ⟩:=lowAll_mem JP rep JF;refine zO1 (P:=P) (types:=types) (Q:=fun a' w'=>zE3 G n Q .normal a' w') (fun t=>∃o∈ops.toList,o.dst=some t) (ρ0:=ρ) (G:=G)
      (K:=fun ρ' w'=>Q .nrm (ρ.merge ρ' (zF4 G ops.toList)) w') ?_ ?_ rep G l a ρ _ JQ (fun _ h=>h) ha (fun _ _=>rfl) (h l hl)
     ·intro M a' ρ' w' JL JB hD hk;refine⟨_,⟨JB.1,JB.2.1,fun t ht=>?_⟩,hk⟩;rw[zGj,JB.2.2 t (JL t ht)];split
      ·rfl
      ·rename_i JD;exact hD t fun hx=>JD (zD2 ht hx)
     ·intro i o JG d hd;have:=Array.getElem?_eq_some_iff.1 JG;exact⟨o,by rw[<-this.2];simp,hd⟩
    cases draw with
    |true =>
     simp only[if_true] at JA;have JA:zEG types ops=some reps:=by
      unfold zHy at JA;split at JA
      ·cases JA
      split at JA
      ·rename_i r hr;split at JA
       ·rw[hr];exact JA
       ·cases JA
      ·cases JA
     exact zD4 hm JA (by simpa[zCk] using hT)
    |false =>simp only[Bool.false_eq_true,if_false,Option.some.injEq] at JA;subst JA;exact zFh (types:=types) (by simpa[zCk] using hT)
   ·cases hl
 |seq x y ihx ihy =>
  intro lc Q a ρ w hl ha h;simp only[lower] at hl;split at hl
  ·rename_i lx ly hx hy;simp only[Option.some.injEq] at hl;subst hl;simp only[wpL] at h;exact wp_seq (wp_mono (ihx _ _ _ _ _ hx ha h) (Exit.then_lift fun a' ρ' w' JB hk=>ihy _ _ _ _ _ hy JB hk))
  ·cases hl
 |cond c x y ihx ihy =>
  intro lc Q a ρ w hl ha h;simp only[lower] at hl;split at hl
  ·rename_i hr;split at hl
   ·rename_i lx ly hx hy;simp only[Option.some.injEq] at hl;subst hl;simp only[wpL,zH7] at h;obtain⟨t,h1,h2,h3⟩:=h;have he:a.eval c=.bool t:=(ha.eval hr c (by simp)).trans h1;exact wp_cond_split he (fun e=>ihx _ _ _ _ _ hx ha (h2 e)) (fun e=>ihy _ _ _ _ _ hy ha (h3 e))
   ·cases hl
  ·cases hl
 |block id x ihx =>
  intro lc Q a ρ w hl ha h;simp only[lower] at hl;split at hl
  ·rename_i lx hx;simp only[Option.some.injEq] at hl;subst hl;simp only[wpL] at h;refine wp_block (wp_mono (ihx _ _ _ _ _ hx ha h) ?_);intro e a' w' hh;cases e<;>simp only[zE3,zCn] at hh<;>simp only[Exit.inBlock,zE3]
   case exit id' =>
    obtain⟨ρ',h1,h2⟩:=hh;split<;>rename_i JS<;>simp only[JS,if_true,if_false] at h2<;>exact⟨ρ',h1,h2⟩
   all_goals exact hh
  ·cases hl
 |loop x ihx =>
  intro lc Q a ρ w hl ha h;simp only[lower] at hl;split at hl
  ·rename_i lx hx;simp only[Option.some.injEq] at hl;subst hl;simp only[wpL] at h;obtain⟨I,⟨m0,h0⟩,h1⟩:=h;refine zKr (fun m a' w'=>∃ρ',zBq G n a' ρ'/\I m ρ' w') m0 ⟨ρ,ha,h0⟩ ?_;rintro m a' w' ⟨ρ',JB,hI⟩;refine wp_mono (ihx _ _ _ _ _ hx JB (h1 m ρ' w' hI)) (Exit.then_lift ?_);rintro a'' ρ'' w'' JK ⟨m',JO,JU⟩;exact⟨m',JO,ρ'',JK,JU⟩
  ·cases hl
 |exit id =>intro lc Q a ρ w hl ha h;simp only[lower,Option.some.injEq] at hl;subst hl;exact wp_exit ⟨ρ,ha,h⟩
 |ret =>intro lc Q a ρ w hl ha h;simp only[lower,Option.some.injEq] at hl;subst hl;exact wp_ret ⟨ρ,ha,h⟩
 |_=>intro lc Q a ρ w hl;simp[lower] at hl
def zEi(P:Program)(ρ:Env):ResultVar->Sem Value
 |.tmp t=>pure (ρ t)
 |.cell a t=>do loadVar t (<-asAddr (ρ a))
def zB3(P:Program)(rs:List ResultVar)(ρ:Env):Sem Value:=do
 let vs <-rs.mapM (zEi P ρ)
 pure (match vs with|[v]=>v|vs=>.tuple vs.toArray)
def zIh(P:Program)(rs:List ResultVar)(R:Ending->World->Prop):Ex->Env->World->Prop
 |.exit _,_,_=>False
 |_,ρ,w=>∃v,(zB3 P rs ρ).run P w=.ok v w/\R (.returned v) w
theorem zHc{G:Nat}{a:Act}{ρ:Env}(ha:zBq G n a ρ)(fn:Func)(hr:zMa G fn.results.toList=true):results fn a.tmps=zB3 P fn.results.toList ρ:=by
 unfold results zB3;rw[Array.mapM_eq_mapM_toList];have JB:∀(rs:List ResultVar),zMa G rs=true->(rs.mapM fun
   |.tmp t=>pure (a.tmps.getD t undef)
   |.cell b t=>do loadVar t (<-asAddr (a.tmps.getD b undef)))=rs.mapM (zEi P ρ):=by
  intro rs JA
  induction rs with
  |nil=>rfl
  |cons x rs ih =>
   simp only[zMa,List.all_cons,Bool.and_eq_true] at JA;rw[List.mapM_cons,List.mapM_cons,ih (by simpa[zMa] using JA.2)];cases x with
   |tmp t=>simp only[zEi,ha.2.2 t JA.1]
   |cell b t=>simp only[zEi,ha.2.2 b JA.1]
 rw[<-JB _ hr];simp only[map_eq_pure_bind,bind_assoc,pure_bind];congr;funext vs;congr
 match vs with
 |[]=>rfl
 |[v]=>rfl
 |_::_::_=>rfl
theorem zLm(G n:Nat)(args:List Value)(hn:args.length<=n):zBq G n { tmps:=args.toArray++Array.replicate (n-args.toArray.size) undef,defers:=[] } (Env.args args):=by
 refine⟨rfl,by simp;omega,fun t _=>?_⟩;simp only[Env.args,Array.getD_eq_getD_getElem?,Array.getElem?_append,List.size_toArray,List.getD_eq_getElem?_getD];split
 ·simp
 ·rename_i h;rw[List.getElem?_eq_none (by omega)];simp only[Option.getD_none];rw[Array.getElem?_replicate];split<;>simp
theorem enter{f:FuncId}{fn:Func}{G:Nat}{lf:LFn}{args:List Value}{w:World}{R:Ending->World->Prop}(hf:P.funcs[f]? = some fn)(hm:P.follows .mixedOrders=true)
  (hl:lowerFn types G fn=some lf) (hn:args.length<=fn.ntmps) (h:wpL P lf.body (zIh P lf.results R) (Env.args args) w):Calls P f args.toArray w R:=by
 unfold lowerFn at hl;split at hl
 ·cases hl
 ·rename_i c hc;split at hl
  ·rename_i hr;split at hl
   ·rename_i l JA;simp only[Option.some.injEq] at hl;subst hl;refine calls_of_wp hf hc (wp_mono (sound hm c l _ _ _ _ JA (zLm G fn.ntmps args hn) h) ?_);intro e a' w' hh;cases e<;>simp only[zE3,zIh] at hh<;>simp only[bodyPost]
    case exit id=>obtain⟨_,_,hh⟩:=hh;exact hh
    case normal=>obtain⟨ρ,ha,v,hv,hR⟩:=hh;exact⟨ha.1,v,by rw[zHc ha fn hr];exact hv,hR⟩
    case ret=>obtain⟨ρ,ha,v,hv,hR⟩:=hh;exact⟨ha.1,v,by rw[zHc ha fn hr];exact hv,hR⟩
    all_goals exact hh.elim
   ·cases hl
  ·cases hl
end
end
end Go.W
