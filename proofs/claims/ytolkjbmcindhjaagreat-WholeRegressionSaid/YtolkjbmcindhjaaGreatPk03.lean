/-
  Parts of the proof of this claim's statement; no conditions beyond those each theorem names.
-/
import Derived.Test.YtolkjbmcindhjaaGreatPk02
import Derived.Below
import Derived.Laws.AppendOwn
import Derived.Deep.Slices
import Derived.Deep.Fields
import Derived.ProofKit
import Derived.SizedLaws
import Derived.Laws.StructEq
import Derived.ChangeKeysEq
import Derived.Maps.OwnSet
set_option maxRecDepth 100000
set_option linter.unusedSimpArgs false
set_option linter.unusedVariables false
set_option linter.unusedSectionVars false
set_option maxHeartbeats 8000000
namespace Go.W
section
open Go
class zw (α:Type) where
 run:α->Prop
@[simp] theorem zJi{α:Type}{f:α->Prop}{x:α}:@zw.run α ⟨f⟩ x=f x:=propext Iff.rfl
def zDw{α:Type}(o:Option α)[k:zw α]:Prop:=zCj o k.run
def gdH(p:Prop)[k:zw Unit]:Prop:=gdS p (k.run ())
def zSe(a b c:Value)[k:zw Value]:Prop:=zLH a b c k.run
def nilH(a:Value)[k:zw Value]:Prop:=zUI a k.run
def zTH(P:Program)(T i:Nat)(a:Value)[k:zw Value]:Prop:=zI2 P T i a k.run
def fldH(P:Program)(T i:Nat)(a:Value)[k:zw Value]:Prop:=zTG P T i a k.run
def zNc(P:Program)(T:Nat)(a b:Value)[k:zw Value]:Prop:=zIx P T a b k.run
def idxH(P:Program)(T:Nat)(a b:Value)[k:zw Value]:Prop:=zTB P T a b k.run
def extH(a:Value)(i:Nat)[k:zw Value]:Prop:=zCZ a i k.run
def unH(o:UnOp)(a:Value)[k:zw Value]:Prop:=unS o a k.run
def zD7(o:BinOp)(i:IntKind)(a:Int)(j:IntKind)(b:Int)[k:zw Value]:Prop:=zHE o i a j b k.run
def eqH(P:Program)(o:BinOp)(T:Nat)(x y:Operand)(u v:Value)[k:zw Value]:Prop:=eqS P o T x y u v k.run
def zRg(P:Program)(o:BinOp)(T:Nat)(x y:Operand)(u v:Value)[k:zw Value]:Prop:=zTt P o T x y u v k.run
def cnvH(P:Program)(s d:Nat)(v:Value)[k:zw Value]:Prop:=zTe P s d v k.run
def zUJ(P:Program)(T:Nat)(v:Value)[k:zw Value]:Prop:=zSt P T v k.run
def mmJ(b:Bool)(i:IntKind)(x:Int)(l:List Value)[k:zw Value]:Prop:=mmI b i x l k.run
def mmH(b:Bool)(l:List Value)[k:zw Value]:Prop:=mmS b l k.run
def ldJ(w:World)(a:Addr)(o:Option (Option Nat))[k:zw Value]:Prop:=ldK w a k.run o
def ldH(P:Program)(T:Nat)(w:World)(v:Value)[k:zw Value]:Prop:=ldS P T w v k.run
def stJ(w:World)(a:Addr)(cs:List Value)[k:zw World]:Prop:=stC w a cs k.run
def stH(P:Program)(T:Nat)(w:World)(v x:Value)[k:zw World]:Prop:=stS P T w v x k.run
def bldH(P:Program)(T:Nat)(l:List (Nat×Value))[k:zw Value]:Prop:=zUQ P T l k.run
def rdH(P:Program)(s:Sem Value)(w:World)[k:zw Value]:Prop:=rdS P s w k.run
def zPJ(P:Program)(s:Sem Value)[k:zw Value]:Prop:=slcS P s k.run
def efH(P:Program)(s:Sem Value)(w:World)[k:zw (Value×World)]:Prop:=zOu P s w fun v w'=>k.run (v,w')
def zRT(P:Program)(s:Sem Unit)(w:World)[k:zw World]:Prop:=zUM P s w k.run
def boxH(T:Nat)(w:World)(v:Value)[k:zw (Value×World)]:Prop:=boxS T w v fun v w'=>k.run (v,w')
def newH(P:Program)(T:Nat)(w:World)[k:zw (Value×World)]:Prop:=newS P T w fun v w'=>k.run (v,w')
def bslH(P:Program)(T n:Nat)(l:List (Nat×Value))(w:World)[k:zw (Value×World)]:Prop:=bslS P T n l w fun v w'=>k.run (v,w')
def mksH(P:Program)(T:Nat)(w:World)(l c:Value)[k:zw (Value×World)]:Prop:=zSo P T w l c fun v w'=>k.run (v,w')
def clJ(P:Program)(w:World)(f:Nat)(l:List Value)[k:zw (Value×World)]:Prop:=zTo P w f l fun v w'=>k.run (v,w')
def clH(P:Program)(w:World)(f:Value)(l:List Value)[k:zw (Value×World)]:Prop:=zJH P w f l fun v w'=>k.run (v,w')
def guH(v:Value)(b:Bool)[k:zw Bool]:Prop:=gd v b (k.run true) (k.run false)
def cdH(v:Value)[k:zw Bool]:Prop:=zLe v (k.run true) (k.run false)
section
variable {P:Program} {K:zw Value} {KU:zw Unit} {KB:zw Bool} {KV:zw (Value×World)} {KW:zw World} {w:World}
@[simp] theorem zDJ{α:Type}{x:α}{k:zw α}:@zDw α (some x) k=k.run x:=propext Iff.rfl
@[simp] theorem gdS_true:@gdH True KU=KU.run ():=by simp[gdH,gdS]
@[simp] theorem pickS_b{t:Bool}{a b:Value}:@zSe (.bool t) a b K=K.run (if t then a else b):=propext Iff.rfl
@[simp] theorem nilS_p{a:Addr}:@nilH (.pointer (some a)) K=K.run (.pointer (some a)):=propext Iff.rfl
@[simp] theorem fldAS_p{T i:Nat}{a:Addr}:@zTH P T i (.pointer (some a)) K=@zDw _ (zCg P T i) ⟨fun o=>K.run (.pointer (some (a.add o)))⟩:=propext Iff.rfl
@[simp] theorem fldS_a{T i:Nat}{cs:Array Value}:@fldH P T i (.agg cs) K=@zDw _ (zDl P T i) ⟨fun q=>@zDw _ (zLI q.1 cs q.2) K⟩:=propext Iff.rfl
@[simp] theorem zVB{cs:Array Value}{o:Nat}:zLI (some none) cs o=cs[o]? := rfl
@[simp] theorem zVC{cs:Array Value}{o n:Nat}:zLI (some (some n)) cs o=some (.agg (cs.extract o (o+n))):=rfl
@[simp] theorem idxAS_s{T:Nat}{a:Addr}{len cap:Nat}{k:IntKind}{i:Int}:@zNc P T (.slice (some a) len cap) (.int k i) K=@zDw _ (zn P T) ⟨fun q=>@gdH (0<=i/\i<len) ⟨fun _=>K.run (.pointer (some (a.add (i.toNat*q.2.1))))⟩⟩:=propext Iff.rfl
@[simp] theorem idxS_s{T:Nat}{s:ByteArray}{k:IntKind}{i:Int}:@idxH P T (.string s) (.int k i) K=@gdH (zFl P T=true) ⟨fun _=>@gdH (0<=i) ⟨fun _=>@zDw _ (s[i.toNat]?) ⟨fun b=>K.run (.int .u8 b.toNat)⟩⟩⟩:=propext Iff.rfl
@[simp] theorem zWh{sz i:Nat}{cs:Array Value}:zG7 sz false cs i=cs[i*sz]? := rfl
@[simp] theorem zWg{sz i:Nat}{cs:Array Value}:zG7 sz true cs i=some (.agg (cs.extract (i*sz) (i*sz+sz))):=rfl
@[simp] theorem extS_t{vs:Array Value}{i:Nat}:@extH (.tuple vs) i K=@zDw _ (vs[i]?) K:=propext Iff.rfl
@[simp] theorem unS_not{b:Bool}:@unH .not (.bool b) K=K.run (.bool !b):=propext Iff.rfl
@[simp] theorem binS_i{o:BinOp}{T:Nat}{x y:Operand}{k k':IntKind}{a b:Int}:@zRg P o T x y (.int k a) (.int k' b) K=@zD7 o k a k' b K:=propext Iff.rfl
@[simp] theorem binS_b{o:BinOp}{T:Nat}{x y:Operand}{a b:Bool}:@zRg P o T x y (.bool a) (.bool b) K=@eqH P o T x y (.bool a) (.bool b) K:=propext Iff.rfl
@[simp] theorem binS_nn{o:BinOp}{T:Nat}{x y:Operand}:@zRg P o T x y .nilIface .nilIface K=@eqH P o T x y .nilIface .nilIface K:=propext Iff.rfl
@[simp] theorem binS_in{o:BinOp}{T:Nat}{x y:Operand}{t:Nat}{v:Value}:@zRg P o T x y (.iface t v) .nilIface K=@eqH P o T x y (.iface t v) .nilIface K:=propext Iff.rfl
@[simp] theorem binS_p{o:BinOp}{T:Nat}{x y:Operand}{a b:Option Addr}:@zRg P o T x y (.pointer a) (.pointer b) K=@eqH P o T x y (.pointer a) (.pointer b) K:=propext Iff.rfl
@[simp] theorem binS_sl{o:BinOp}{T:Nat}{x y:Operand}{a b:Option Addr}{n m c d:Nat}:@zRg P o T x y (.slice a n c) (.slice b m d) K=@eqH P o T x y (.slice a n c) (.slice b m d) K:=propext Iff.rfl
@[simp] theorem eqS_eql{T:Nat}{x y:Operand}{u v:Value}:@eqH P .eql T x y u v K=@zDw _ (zH1 P T x y u v) ⟨fun r=>K.run (.bool r)⟩:=propext Iff.rfl
@[simp] theorem eqS_neq{T:Nat}{x y:Operand}{u v:Value}:@eqH P .neq T x y u v K=@zDw _ (zH1 P T x y u v) ⟨fun r=>K.run (.bool !r)⟩:=propext Iff.rfl
@[simp] theorem eqvV_b{T:Nat}{x y:Operand}{a b:Bool}:zH1 P T x y (.bool a) (.bool b)=if zGq P T=true then some (a==b) else none:=rfl
@[simp] theorem eqvV_nn{T:Nat}{x y:Operand}:zH1 P T x y .nilIface .nilIface=if zq P T=some true/\(isC x||isC y) then some true else none:=rfl
@[simp] theorem eqvV_in{T t:Nat}{v:Value}{x y:Operand}:zH1 P T x y (.iface t v) .nilIface=if zq P T=some true then some false else none:=rfl
@[simp] theorem eqvV_ni{T t:Nat}{v:Value}{x y:Operand}:zH1 P T x y .nilIface (.iface t v)=if zq P T=some true then some false else none:=rfl
@[simp] theorem eqvV_ii{T t t':Nat}{k k':IntKind}{a b:Int}{x y:Operand}:zH1 P T x y (.iface t (.int k a)) (.iface t' (.int k' b))=if zq P T=some true/\t=t'/\k=k'/\intC P t=true then some (a==b) else none:=rfl
@[simp] theorem eqvV_p{T:Nat}{a:Option Addr}{x y:Operand}:zH1 P T x y (.pointer a) (.pointer none)=if zHu P T=true then some a.isNone else none:=by cases a<;>rfl
@[simp] theorem eqvV_s{T n m c d:Nat}{a:Option Addr}{x y:Operand}:zH1 P T x y (.slice a n c) (.slice none m d)=if zGp P T=true then some a.isNone else none:=by cases a<;>rfl
@[simp] theorem zVn{v:Value}:isC (.const v)=true:=rfl
@[simp] theorem isC_tmp{t:Nat}:isC (.tmp t)=false:=rfl
@[simp] theorem intS_add{k:IntKind}{a b:Int}:@zD7 .add k a k b K=K.run (.int k (k.wrap (a+b))):=by simp[zD7,zHE,gdS]
@[simp] theorem intS_sub{k:IntKind}{a b:Int}:@zD7 .sub k a k b K=K.run (.int k (k.wrap (a-b))):=by simp[zD7,zHE,gdS]
@[simp] theorem intS_mul{k:IntKind}{a b:Int}:@zD7 .mul k a k b K=K.run (.int k (k.wrap (a*b))):=by simp[zD7,zHE,gdS]
@[simp] theorem intS_rem{k:IntKind}{a b:Int}:@zD7 .rem k a k b K=@gdH (b≠0) ⟨fun _=>K.run (.int k (a.tmod b))⟩:=by simp[zD7,zHE,gdS,gdH]
@[simp] theorem intS_eql{k:IntKind}{a b:Int}:@zD7 .eql k a k b K=K.run (.bool (a==b)):=by simp[zD7,zHE,gdS]
@[simp] theorem intS_neq{k:IntKind}{a b:Int}:@zD7 .neq k a k b K=K.run (.bool (a != b)):=by simp[zD7,zHE,gdS]
@[simp] theorem intS_lss{k:IntKind}{a b:Int}:@zD7 .lss k a k b K=K.run (.bool (decide (a<b))):=by simp[zD7,zHE,gdS]
@[simp] theorem intS_leq{k:IntKind}{a b:Int}:@zD7 .leq k a k b K=K.run (.bool (decide (a<=b))):=by simp[zD7,zHE,gdS]
@[simp] theorem intS_gtr{k:IntKind}{a b:Int}:@zD7 .gtr k a k b K=K.run (.bool (decide (b<a))):=by simp[zD7,zHE,gdS]
@[simp] theorem intS_geq{k:IntKind}{a b:Int}:@zD7 .geq k a k b K=K.run (.bool (decide (b<=a))):=by simp[zD7,zHE,gdS]
@[simp] theorem intS_shl{k k':IntKind}{a b:Int}:@zD7 .shl k a k' b K=@gdH (0<=b) ⟨fun _=>K.run (.int k (k.wrap (a*2^(min b.toNat k.bits))))⟩:=propext Iff.rfl
@[simp] theorem intS_shr{k k':IntKind}{a b:Int}:@zD7 .shr k a k' b K=@gdH (0<=b) ⟨fun _=>K.run (.int k (a.fdiv (2^(min b.toNat k.bits))))⟩:=propext Iff.rfl
@[simp] theorem intS_and{k:IntKind}{a b:Int}:@zD7 .and k a k b K=K.run (.int k (k.wrap (BitVec.ofInt k.bits a &&& BitVec.ofInt k.bits b).toNat)):=by simp[zD7,zHE,gdS]
@[simp] theorem cnvS_i{s d:Nat}{k:IntKind}{n:Int}:@cnvH P s d (.int k n) K=@zDw _ (zE5 P d) ⟨fun k=>@gdH ((P.underlying s).isSome=true) ⟨fun _=>K.run (.int k (k.wrap n))⟩⟩:=propext Iff.rfl
@[simp] theorem lenS_s{T:Nat}{s:ByteArray}:@zUJ P T (.string s) K=@gdH (zFl P T=true) ⟨fun _=>K.run (.int .i64 s.size)⟩:=propext Iff.rfl
@[simp] theorem lenS_l{T:Nat}{a:Option Addr}{n c:Nat}:@zUJ P T (.slice a n c) K=@gdH (zGp P T=true) ⟨fun _=>K.run (.int .i64 n)⟩:=propext Iff.rfl
@[simp] theorem mmS_i{b:Bool}{k:IntKind}{x:Int}{l:List Value}:@mmH b (.int k x::l) K=@mmJ b k x l K:=propext Iff.rfl
@[simp] theorem mmI_nil{b:Bool}{k:IntKind}{x:Int}:@mmJ b k x [] K=K.run (.int k x):=propext Iff.rfl
@[simp] theorem mmI_min{k k':IntKind}{x y:Int}{l:List Value}:@mmJ false k x (.int k' y::l) K=@mmJ false k (min x y) l K:=by
 have:(if y<x then y else x)=min x y:=by by_cases h:y<x<;>simp[h]<;>omega
 simp[mmJ,mmI,this]
@[simp] theorem mmI_max{k k':IntKind}{x y:Int}{l:List Value}:@mmJ true k x (.int k' y::l) K=@mmJ true k (max x y) l K:=by
 have:(if y > x then y else x)=max x y:=by by_cases h:y > x<;>simp[h]<;>omega
 simp[mmJ,mmI,this]
@[simp] theorem ldS_p{T:Nat}{a:Addr}:@ldH P T w (.pointer (some a)) K=@ldJ w a (zAa P T) K:=propext Iff.rfl
@[simp] theorem ldK_one{a:Addr}:@ldJ w a (some none) K=@zDw _ (w.cell? a) K:=propext Iff.rfl
@[simp] theorem ldK_agg{a:Addr}{n:Nat}:@ldJ w a (some (some n)) K=@zDw _ (zK w a 0 n) ⟨fun cs=>K.run (.agg cs.toArray)⟩:=propext Iff.rfl
@[simp] theorem stS_p{T:Nat}{a:Addr}{x:Value}:@stH P T w (.pointer (some a)) x KW=@gdH (zAq P T=some x.cells.size) ⟨fun _=>@stJ w a x.cells.toList KW⟩:=propext Iff.rfl
theorem zHR{a:Addr}{cs:List Value}:@stJ w a cs KW=@zDw _ (zHa w a) ⟨fun q=>@gdH (a.spot=none/\a.off+cs.length<=q.1.size/\cs.all zAn=true) ⟨fun _=>KW.run (w.setB a.block (.cells (zBh q.1 a.off cs) q.2 (0,0)))⟩⟩:=rfl
@[simp] theorem bldS_eq{T:Nat}{l:List (Nat×Value)}:@bldH P T l K=@zDw _ (zAv P T) ⟨fun q=>@zDw _ (zTs l q) ⟨fun cs=>K.run (.agg cs)⟩⟩:=propext Iff.rfl
@[simp] theorem bldV_st{l:List (Nat×Value)}{z:List Value}{pl:List (Nat×Nat)}:zTs l (z,pl,0)=zFE pl z.toArray l:=rfl
@[simp] theorem bldV_ar{l:List (Nat×Value)}{z:List Value}{pl:List (Nat×Nat)}{n:Nat}:zTs l (z,pl,n+1)=zBP (n+1) z.toArray l:=rfl
@[simp] theorem boxS_eq{T:Nat}{v:Value}:@boxH T w v KV=KV.run (.pointer (some ⟨w.heap.size,0,none⟩),w.alloc (.cells v.cells T)):=propext Iff.rfl
@[simp] theorem newS_eq{T:Nat}:@newH P T w KV=@zDw _ (zC8 P T) ⟨fun z=>@boxH T w z KV⟩:=propext Iff.rfl
@[simp] theorem bslS_eq{T n:Nat}{l:List (Nat×Value)}:@bslH P T n l w KV=@zDw _ (zn P T) ⟨fun q=>@gdH (n*q.2.1<=16777216) ⟨fun _=>@zDw _ (zBP q.2.1 (zW q.2.2.2 n).toArray l) ⟨fun cs=>KV.run (.slice (some ⟨w.heap.size,0,none⟩) n n,w.alloc (.cells cs q.1))⟩⟩⟩:=propext Iff.rfl
@[simp] theorem mksS_eq{T:Nat}{k j:IntKind}{l c:Int}:@mksH P T w (.int k l) (.int j c) KV=@zDw _ (zn P T) ⟨fun q=>@gdH (0<=l/\l<=c/\c<=9223372036854775807/\q.2.2.1*c<=140737488355328)
   ⟨fun _=>KV.run (.slice (some ⟨w.heap.size,0,none⟩) l.toNat c.toNat,w.alloc (.cells (zW q.2.2.2 c.toNat).toArray q.1))⟩⟩:=rfl
def clX(P:Program)(w:World)(f:Nat)(l:List Value)[k:zw (Value×World)]:Prop:=∃v w',(callFunc f l.toArray).run P w=.ok (.value v) w'/\k.run (v,w')
@[simp] theorem callS_f{f:Nat}{x y:Array Value}{l:List Value}:@clH P w (.func (.func f) x y) l KV=if zE P f=true then @clJ P w f (x.toList++l++y.toList) KV else @clX P w f (x.toList++l++y.toList) KV:=by
 by_cases he:zE P f=true
 ·rw[if_pos he];refine propext ⟨fun h=>?_,fun h=>.inl ⟨he,h⟩⟩;rcases h with h|⟨v,w',hr,_⟩
  ·exact h.2
  ·exfalso;unfold zE at he;split at he
   ·rename_i fn hf;simp only[Bool.and_eq_true,bne_iff_ne,ne_eq] at he;have hb:fn.body.isNone=false:=by
     cases hh:fn.body with
     |none=>rw[hh] at he;simp at he
     |some _=>rfl
    simp[callFunc,run_program,hf,he.2] at hr;rw[if_neg (by intro h;rw[h] at hb;cases hb)] at hr;simp at hr
   ·cases he
 ·rw[if_neg he];refine propext ⟨fun h=>?_,fun h=>.inr h⟩;rcases h with h|h
  ·exact absurd h.1 he
  ·exact h
theorem zWN{f:Nat}{l:List Value}{v:Value}{w':World}(h:(callFunc f l.toArray).run P w=.ok (.value v) w')(hk:KV.run (v,w')):@clX P w f l KV:=⟨v,w',h,hk⟩
@[simp] theorem gd_tt{b:Bool}:@guH (.bool b) b KB=KB.run true:=by simp[guH,gd]
@[simp] theorem gd_tf:@guH (.bool true) false KB=KB.run false:=by simp[guH,gd]
@[simp] theorem gd_ft:@guH (.bool false) true KB=KB.run false:=by simp[guH,gd]
@[simp] theorem gd_un{b:Bool}{vs:Array Value}:@guH (.tuple vs) b KB=KB.run false:=by simp[guH,gd]
@[simp] theorem condS_t:@cdH (.bool true) KB=KB.run true:=by simp[cdH,zLe]
@[simp] theorem condS_f:@cdH (.bool false) KB=KB.run false:=by simp[cdH,zLe]
theorem zHw{p:Prop}(h:p)(hk:KU.run ()):@gdH p KU:=⟨h,hk⟩
theorem zD8{s:Sem Value}{v:Value}{w':World}(h:s.run P w=.ok v w')(hk:KV.run (v,w')):@efH P s w KV:=⟨v,w',h,hk⟩
theorem zV6{s:Sem Unit}{w':World}(h:s.run P w=.ok () w')(hk:KW.run w'):@zRT P s w KW:=⟨w',h,hk⟩
theorem zA4{s:Sem Value}{v:Value}(h:∀w',s.run P w'=.ok v w')(hk:K.run v):@zPJ P s K:=⟨v,h,hk⟩
theorem zPQ{s:Sem Value}{v:Value}(h:∀w',zFf w w'->s.run P w'=.ok v w')(hk:K.run v):@rdH P s w K:=⟨v,h,hk⟩
theorem zG{f:Nat}{args:List Value}{R:Value->World->Prop}
  (h:Calls P f args.toArray w fun e w'=>∃v,e=.returned v/\R v w') (hk:∀v w',R v w'->KV.run (v,w')):@clJ P w f args KV :=
 h.mono fun _ _ ⟨v,he,hr⟩=>⟨v,he,hk _ _ hr⟩
end
attribute [simp] List.getElem?_cons_zero List.getElem?_cons_succ
@[simp] theorem zWU{k:IntKind}{n:Int}:(Value.int k n).cells=#[.int k n]:=rfl
@[simp] theorem zUN{b:Bool}:(Value.bool b).cells=#[.bool b]:=rfl
@[simp] theorem zWP{s:ByteArray}:(Value.string s).cells=#[.string s]:=rfl
@[simp] theorem zWQ{a:Option Addr}:(Value.pointer a).cells=#[.pointer a]:=rfl
@[simp] theorem cells_sl{a:Option Addr}{n c:Nat}:(Value.slice a n c).cells=#[.slice a n c]:=rfl
@[simp] theorem zWT{r:Option Nat}:(Value.map r).cells=#[.map r]:=rfl
@[simp] theorem cells_if{t:Nat}{v:Value}:(Value.iface t v).cells=#[.iface t v]:=rfl
@[simp] theorem zWR:(Value.nilIface).cells=#[.nilIface]:=rfl
@[simp] theorem cells_fn{f:Fn}{x y:Array Value}:(Value.func f x y).cells=#[.func f x y]:=rfl
@[simp] theorem zWS:(Value.nilFunc).cells=#[.nilFunc]:=rfl
@[simp] theorem zWV{cs:Array Value}:(Value.agg cs).cells=cs:=rfl
@[simp] theorem oneC_int{k:IntKind}{n:Int}:zAn (.int k n)=true:=rfl
@[simp] theorem zVQ{b:Bool}:zAn (.bool b)=true:=rfl
@[simp] theorem oneC_str{s:ByteArray}:zAn (.string s)=true:=rfl
@[simp] theorem oneC_ptr{a:Option Addr}:zAn (.pointer a)=true:=rfl
@[simp] theorem oneC_sl{a:Option Addr}{n c:Nat}:zAn (.slice a n c)=true:=rfl
@[simp] theorem oneC_map{r:Option Nat}:zAn (.map r)=true:=rfl
@[simp] theorem oneC_if{t:Nat}{v:Value}:zAn (.iface t v)=true:=rfl
@[simp] theorem oneC_nif:zAn .nilIface=true:=rfl
@[simp] theorem oneC_fn{f:Fn}{x y:Array Value}:zAn (.func f x y)=true:=rfl
@[simp] theorem wrAt_nil{c:Array Value}{o:Nat}:zBh c o []=c:=rfl
@[simp] theorem zL0{c:Array Value}{o:Nat}{v:Value}{vs:List Value}:zBh c o (v::vs)=zBh (c.setIfInBounds o v) (o+1) vs:=rfl
@[simp] theorem zAm{b o i:Nat}:(⟨b,o,none⟩:Addr).add i=⟨b,o+i,none⟩:=zh b o i
@[simp] theorem zUB{c:Array Value}{E:Nat}:rowO (some (.cells c E (0,0)))=some (c,E):=rfl
theorem zA{w:World}{b:Nat}{c:Array Value}{E:Nat}{fr:Nat×Nat}(h:w.heap[b]? = some (.cells c E fr))(o:Nat):w.cell? ⟨b,o,none⟩=c[o]? := by simp[World.cell?,h]
theorem zEh{w:World}{b:Nat}{c:Array Value}{E:Nat}(h:w.heap[b]? = some (.cells c E (0,0)))(o:Nat)(s:Option Nat):zHa w ⟨b,o,s⟩=some (c,E):=by simp[zHa,h]
@[simp] theorem zVz{pl:List (Nat×Nat)}{cs:Array Value}:zFE pl cs []=some cs:=rfl
@[simp] theorem zTK{sz:Nat}{cs:Array Value}:zBP sz cs []=some cs:=rfl
@[simp] theorem zUL{pl:List (Nat×Nat)}{cs:Array Value}{i:Nat}{v:Value}{r:List (Nat×Value)} :
  zFE pl cs ((i,v)::r)=(pl[i]?).bind fun q=>if v.cells.size=q.2/\q.1+q.2<=cs.size then zFE pl (zBh cs q.1 v.cells.toList) r else none:=by
 rw[zFE];cases pl[i]? with
 |none=>rfl
 |some q =>simp only[Option.bind_some];by_cases h1:v.cells.size=q.2<;>by_cases h2:q.1+q.2<=cs.size<;>simp[h1,h2]<;>omega
@[simp] theorem zRR{sz:Nat}{cs:Array Value}{i:Nat}{v:Value}{r:List (Nat×Value)} :
  zBP sz cs ((i,v)::r)=if v.cells.size=sz/\i*sz+sz<=cs.size then zBP sz (zBh cs (i*sz) v.cells.toList) r else none:=by
 rw[zBP];by_cases h1:v.cells.size=sz<;>by_cases h2:i*sz+sz<=cs.size<;>simp[h1,h2]<;>omega
@[simp] theorem zU0{z:List Value}:zW z 1=z:=by simp[zW]
@[simp] theorem zUA{z:List Value}:zW z 0=[]:=rfl
section
variable {w:World}
@[simp] theorem drawn_t:zCk true w=w.drew:=rfl
@[simp] theorem drawn_f:zCk false w=w:=rfl
@[simp] theorem zV7:w.drew.heap=w.heap:=rfl
@[simp] theorem zO{o:Obj}:(w.alloc o).heap[w.heap.size]? = some o:=by
 show(w.heap.push o)[w.heap.size]? = some o;simp
theorem zOi{o:Obj}{b:Nat}(h:b<w.heap.size):(w.alloc o).heap[b]? = w.heap[b]? := by
 show(w.heap.push o)[b]? = w.heap[b]?;rw[Array.getElem?_push,if_neg (Nat.ne_of_lt h)]
theorem zS{b:Nat}{o:Obj}(h:w.heap[b]? = some o):b<w.heap.size:=(Array.getElem?_eq_some_iff.1 h).1
@[simp] theorem zUw{b:Nat}{o:Obj}:(w.setB b o).heap.size=w.heap.size:=by simp[World.setB]
theorem zSE{b b':Nat}{o:Obj}(h:b'≠b):(w.setB b o).heap[b']? = w.heap[b']? := by
 unfold World.setB;simp only[Array.getElem?_setIfInBounds];rw[if_neg (Ne.symm h)]
theorem zAg{b:Nat}{o:Obj}(h:b<w.heap.size):(w.setB b o).heap[b]? = some o:=by
 simp[World.setB,h]
@[simp] theorem drew_os:w.drew.os=w.os:=rfl
@[simp] theorem drew_out:w.drew.output=w.output:=rfl
end
@[simp] theorem set_at{ρ:Env}{d t:Nat}{v:Value}:(ρ.set d v) t=if t=d then v else ρ t:=rfl
@[simp] theorem put_some{ρ:Env}{d:Nat}{v:Value}:ρ.put (some d) v=ρ.set d v:=rfl
@[simp] theorem zJw{ρ:Env}{v:Value}:ρ.put none v=ρ:=rfl
@[simp] theorem ev_tmp{ρ:Env}{t:Nat}:ρ.ev (.tmp t)=ρ t:=rfl
@[simp] theorem ev_const{ρ:Env}{v:Value}:ρ.ev (.const v)=v:=rfl
@[simp] theorem ev_func{ρ:Env}{f:Nat}:ρ.ev (.func f)=.func (.func f) #[] #[]:=rfl
@[simp] theorem zV1{ρ:Env}{g:Nat}:ρ.ev (.global g)=.pointer (some ⟨g,0,none⟩):=rfl
@[simp] theorem zEz{ρ ρ':Env}:ρ.merge ρ' []=ρ:=rfl
@[simp] theorem zLN{ρ ρ':Env}{t:Nat}{l:List Nat}:ρ.merge ρ' (t::l)=(ρ.merge ρ' l).set t (ρ' t):=rfl
@[simp] theorem args_at{l:List Value}{t:Nat}:Env.args l t=l.getD t undef:=rfl
@[simp] theorem zDD{K:Env->World->Prop}{Q:Ex->Env->World->Prop}:zCu K Q .nrm=K:=rfl
@[simp] theorem zT9{K:Env->World->Prop}{Q:Ex->Env->World->Prop}{i:Nat}:zCu K Q (.exit i)=Q (.exit i):=rfl
@[simp] theorem zUe{K:Env->World->Prop}{Q:Ex->Env->World->Prop}:zCu K Q .ret=Q .ret:=rfl
@[simp] theorem zUP{i:Nat}{Q:Ex->Env->World->Prop}:zCn i Q .nrm=Q .nrm:=rfl
@[simp] theorem zUO{i:Nat}{Q:Ex->Env->World->Prop}:zCn i Q .ret=Q .ret:=rfl
@[simp] theorem zFP{i j:Nat}{Q:Ex->Env->World->Prop}:zCn i Q (.exit j)=if j=i then Q .nrm else Q (.exit j):=rfl
section
variable {P:Program} {ρ:Env} {w:World} {K:Env->World->Prop} {Q:Ex->Env->World->Prop} {KW:Value->World->Prop} {ty:Nat}
@[simp ↓] theorem zL1:wpT P [] ρ w K=K ρ w:=propext Iff.rfl
@[simp ↓] theorem wpT_cons{c:Nat}{d:Option Nat}{op:Op}{l:List LO}:wpT P (⟨c,d,op,ty,none⟩::l) ρ w K=opS P c op ty ρ w fun v w'=>wpT P l (ρ.put d v) w' K:=propext Iff.rfl
@[simp ↓] theorem wpT_gd{c g:Nat}{b:Bool}{d:Option Nat}{op:Op}{l:List LO}:wpT P (⟨c,d,op,ty,some (g,b)⟩::l) ρ w K =
  @guH (ρ g) b ⟨fun t=>if t=true then opS P c op ty ρ w fun v w'=>wpT P l (ρ.put d v) w' K else wpT P l (ρ.put d undef) w K⟩:=by simp[guH,wpT]
@[simp ↓] theorem zT8{l:List LO}:zCh P ρ w K [l]=wpT P l ρ w K:=propext Iff.rfl
@[simp ↓] theorem wpL_skip:wpL P .skip Q ρ w=Q .nrm ρ w:=propext Iff.rfl
@[simp ↓] theorem wpL_exit{i:Nat}:wpL P (.exit i) Q ρ w=Q (.exit i) ρ w:=propext Iff.rfl
@[simp ↓] theorem wpL_ret:wpL P .ret Q ρ w=Q .ret ρ w:=propext Iff.rfl
@[simp ↓] theorem zT7{dr:Bool}{alts:List (List LO)}{outs:List Nat}:wpL P (.region dr alts outs) Q ρ w=zCh P ρ (zCk dr w) (fun ρ' w'=>Q .nrm (ρ.merge ρ' outs) w') alts:=propext Iff.rfl
@[simp ↓] theorem zL2{a b:LCode}:wpL P (.seq a b) Q ρ w=wpL P a (zCu (wpL P b Q) Q) ρ w:=propext Iff.rfl
@[simp ↓] theorem wpL_cond{c:Operand}{a b:LCode}:wpL P (.cond c a b) Q ρ w=@cdH (ρ.ev c) ⟨fun t=>if t=true then wpL P a Q ρ w else wpL P b Q ρ w⟩:=by simp[cdH,wpL]
@[simp ↓] theorem zL3{i:Nat}{c:LCode}:wpL P (.block i c) Q ρ w=wpL P c (zCn i Q) ρ w:=propext Iff.rfl
@[simp ↓] theorem opS_move{x:Operand}:opS P 0 (.move x) ty ρ w KW=KW (ρ.ev x) w:=by simp[opS]
@[simp ↓] theorem zUG{x:Operand}:opS P 0 (.assign x) ty ρ w KW=KW (ρ.ev x) w:=by simp[opS]
@[simp ↓] theorem opS_pick{b x y:Operand}:opS P 0 (.pick b x y) ty ρ w KW=@zSe (ρ.ev b) (ρ.ev x) (ρ.ev y) ⟨fun v=>KW v w⟩:=by simp[opS,zSe]
@[simp ↓] theorem zVM{T:Nat}{parts:Array (Nat×Operand)}:opS P 0 (.build T parts) ty ρ w KW=@bldH P T (parts.toList.map fun p=>(p.1,ρ.ev p.2)) ⟨fun v=>KW v w⟩:=by simp only[opS,true_and,bldH]
@[simp ↓] theorem zQ5{x:Operand}:opS P 0 (.nilCheck x) ty ρ w KW=@nilH (ρ.ev x) ⟨fun v=>KW v w⟩:=by simp only[opS,true_and,nilH]
@[simp ↓] theorem zPe{T k:Nat}{x:Operand}:opS P 0 (.fieldAddr T x k) ty ρ w KW=@zTH P T k (ρ.ev x) ⟨fun v=>KW v w⟩:=by simp only[opS,true_and,zTH]
@[simp ↓] theorem zVK{T k:Nat}{x:Operand}:opS P 0 (.field T x k) ty ρ w KW=@fldH P T k (ρ.ev x) ⟨fun v=>KW v w⟩:=by simp only[opS,true_and,fldH]
@[simp ↓] theorem zPd{T:Nat}{x i:Operand}:opS P 0 (.indexAddr T x i) ty ρ w KW=@zNc P T (ρ.ev x) (ρ.ev i) ⟨fun v=>KW v w⟩:=by simp only[opS,true_and,zNc]
@[simp ↓] theorem zVJ{T:Nat}{x i:Operand}:opS P 0 (.index T x i) ty ρ w KW=@idxH P T (ρ.ev x) (ρ.ev i) ⟨fun v=>KW v w⟩:=by simp only[opS,true_and,idxH]
@[simp ↓] theorem zSj{i:Nat}{x:Operand}:opS P 0 (.extract x i) ty ρ w KW=@extH (ρ.ev x) i ⟨fun v=>KW v w⟩:=by simp only[opS,true_and,extH]
@[simp ↓] theorem opS_unOp{o:UnOp}{T:Nat}{x:Operand}:opS P 0 (.unOp o T x) ty ρ w KW=@unH o (ρ.ev x) ⟨fun v=>KW v w⟩:=by simp only[opS,true_and,unH]
@[simp ↓] theorem zLK{T:Nat}{x:Operand}:opS P 0 (.makeInterface T x) ty ρ w KW=@gdH (zq P T=some false) ⟨fun _=>KW (.iface T (ρ.ev x)) w⟩:=by simp only[opS,true_and,gdH,gdS]
@[simp ↓] theorem zQ6{fn:Fn}{a b:Array Operand}:opS P 0 (.makeFunc fn a b) ty ρ w KW=KW (.func fn (a.toList.map ρ.ev).toArray (b.toList.map ρ.ev).toArray) w:=by simp only[opS,true_and]
@[simp ↓] theorem zVH{T:Nat}{x:Operand}{lo hi mx:Option Operand}:opS P 0 (.slice T x lo hi mx) ty ρ w KW=@zPJ P (Instr.sliceAt T (ρ.ev x) (lo.map ρ.ev) (hi.map ρ.ev) (mx.map ρ.ev)) ⟨fun v=>KW v w⟩:=by simp only[opS,true_and,zPJ]
@[simp ↓] theorem zVN{o:BinOp}{T yT:Nat}{x y:Operand}:opS P 0 (.binOp o T x y yT) ty ρ w KW=@zRg P o T x y (ρ.ev x) (ρ.ev y) ⟨fun v=>KW v w⟩:=by simp[opS,zRg]
@[simp ↓] theorem zUF{o:BinOp}{T yT:Nat}{x y:Operand}:opS P 1 (.binOp o T x y yT) ty ρ w KW=@rdH P (do eqGuard o T x y (ρ.ev x) (ρ.ev y);binOp o T (ρ.ev x) (ρ.ev y)) w ⟨fun v=>KW v w⟩:=by simp[opS,rdH]
@[simp ↓] theorem zSk{s d:Nat}{x:Operand}:opS P 0 (.convert s d x) ty ρ w KW=@cnvH P s d (ρ.ev x) ⟨fun v=>KW v w⟩:=by simp[opS,cnvH]
@[simp ↓] theorem opS_load{T:Nat}{a:Operand}:opS P 1 (.load T a) ty ρ w KW=@ldH P T w (ρ.ev a) ⟨fun v=>KW v w⟩:=by simp only[opS,true_and,ldH]
@[simp ↓] theorem zUE{T:Nat}{m k:Operand}{ok:Bool}:opS P 1 (.lookup T m k ok) ty ρ w KW=@rdH P (Instr.lookup T (ρ.ev m) (ρ.ev k) ok) w ⟨fun v=>KW v w⟩:=by simp only[opS,true_and,rdH]
@[simp ↓] theorem opS_box{T:Nat}{x:Operand}:opS P 3 (.box T x) ty ρ w KW=@boxH T w (ρ.ev x) ⟨fun q=>KW q.1 q.2⟩:=by simp only[opS,true_and,boxH]
@[simp ↓] theorem zVO{T:Nat}:opS P 3 (.alloc T) ty ρ w KW=@newH P T w ⟨fun q=>KW q.1 q.2⟩:=by simp only[opS,true_and,newH]
@[simp ↓] theorem zOs{T n:Nat}{parts:Array (Nat×Operand)}:opS P 3 (.buildSlice T n parts) ty ρ w KW=@bslH P T n (parts.toList.map fun p=>(p.1,ρ.ev p.2)) w ⟨fun q=>KW q.1 q.2⟩:=by simp only[opS,true_and,bslH]
@[simp ↓] theorem zSi{T:Nat}:opS P 3 (.makeMap T none) ty ρ w KW=KW (.map (some w.heap.size)) (w.alloc (.map #[] 0)):=by simp only[opS,true_and]
@[simp ↓] theorem zPc{T:Nat}{l k:Operand}:opS P 3 (.makeSlice T l k) ty ρ w KW=@mksH P T w (ρ.ev l) (ρ.ev k) ⟨fun q=>KW q.1 q.2⟩:=by simp only[opS,true_and,mksH]
@[simp ↓] theorem zVG{T:Nat}{a x:Operand}:opS P 2 (.store T a x) ty ρ w KW=@stH P T w (ρ.ev a) (ρ.ev x) ⟨fun w'=>KW undef w'⟩:=by simp only[opS,true_and,stH]
@[simp ↓] theorem zPb{T:Nat}{m k x:Operand}:opS P 2 (.mapUpdate T m k x) ty ρ w KW=@zRT P (Instr.mapUpdate T (ρ.ev m) (ρ.ev k) (ρ.ev x)) w ⟨fun w'=>KW undef w'⟩:=by simp only[opS,true_and,zRT]
@[simp ↓] theorem zVI{T:Nat}{x:Operand}:opS P 2 (.range T x) ty ρ w KW=@efH P (Instr.range T (ρ.ev x)) w ⟨fun q=>KW q.1 q.2⟩:=by simp only[opS,true_and,efH]
@[simp ↓] theorem opS_next{x:Operand}{s:Bool}:opS P 2 (.next x s) ty ρ w KW=@efH P (Instr.next (ρ.ev x) s ty) w ⟨fun q=>KW q.1 q.2⟩:=by simp only[opS,true_and,efH]
@[simp ↓] theorem zVL{x:Operand}:opS P 2 (.entry x) ty ρ w KW=@efH P (Instr.entry (ρ.ev x)) w ⟨fun q=>KW q.1 q.2⟩:=by simp only[opS,true_and,efH]
@[simp ↓] theorem opS_len{args:Array Operand}{tys:Array Nat}:opS P 0 (.call ⟨.builtin .len,args,tys⟩) ty ρ w KW=@zDw _ tys[0]? ⟨fun T=>@zDw _ args[0]? ⟨fun x=>@zUJ P T (ρ.ev x) ⟨fun v=>KW v w⟩⟩⟩:=by simp[opS,zUJ,zDw]
@[simp ↓] theorem opS_min{args:Array Operand}{tys:Array Nat}:opS P 0 (.call ⟨.builtin .min,args,tys⟩) ty ρ w KW=@mmH false (args.toList.map ρ.ev) ⟨fun v=>KW v w⟩:=by simp only[opS,true_and,mmH]
@[simp ↓] theorem opS_max{args:Array Operand}{tys:Array Nat}:opS P 0 (.call ⟨.builtin .max,args,tys⟩) ty ρ w KW=@mmH true (args.toList.map ρ.ev) ⟨fun v=>KW v w⟩:=by simp only[opS,true_and,mmH]
@[simp ↓] theorem zUH{args:Array Operand}{tys:Array Nat}:opS P 2 (.call ⟨.builtin .append,args,tys⟩) ty ρ w KW=@efH P (Builtin.append_ tys ty (args.toList.map ρ.ev).toArray) w ⟨fun q=>KW q.1 q.2⟩:=by simp only[opS,true_and,efH]
@[simp ↓] theorem opS_copy{args:Array Operand}{tys:Array Nat}:opS P 2 (.call ⟨.builtin .copy,args,tys⟩) ty ρ w KW=@efH P (Builtin.copy_ tys ty (args.toList.map ρ.ev).toArray) w ⟨fun q=>KW q.1 q.2⟩:=by simp only[opS,true_and,efH]
@[simp ↓] theorem opS_call{f:Operand}{args:Array Operand}{tys:Array Nat}:opS P 2 (.call ⟨.value f,args,tys⟩) ty ρ w KW=@clH P w (ρ.ev f) (args.toList.map ρ.ev) ⟨fun q=>KW q.1 q.2⟩:=by simp only[opS,true_and,clH]
end
section
variable {P:Program} {ρ:Env} {w:World} {Q:Ex->Env->World->Prop}
theorem za{a b:LCode}(M:Env->World->Prop)(h:wpL P a (zCu M Q) ρ w)(h2:∀ρ w,M ρ w->wpL P b Q ρ w):wpL P (.seq a b) Q ρ w :=
 zBD a (fun e ρ w hk=>by cases e<;>simp only[zCu] at hk ⊢<;>first|exact h2 _ _ hk|exact hk) h
theorem z8{c:LCode}(I:Nat->Env->World->Prop)(n:Nat)(h0:I n ρ w)
  (h:∀n ρ' w',I n ρ' w'->wpL P c (zCu (fun ρ'' w''=>∃m,m<n/\I m ρ'' w'') Q) ρ' w'):wpL P (.loop c) Q ρ w:=⟨I,⟨n,h0⟩,h⟩
end
theorem zJo{P:Program}{ρ:Env}{w:World}:(zB3 P [] ρ).run P w=.ok (.tuple #[]) w:=by simp[zB3]
theorem zSQ{P:Program}{ρ:Env}{w:World}{t:Nat}:(zB3 P [.tmp t] ρ).run P w=.ok (ρ t) w:=by simp[zB3,zEi]
theorem zSP{P:Program}{ρ:Env}{w:World}{t u:Nat}:(zB3 P [.tmp t,.tmp u] ρ).run P w=.ok (.tuple #[ρ t,ρ u]) w:=by simp[zB3,zEi]
section
variable {P:Program} {ρ:Env} {w:World} {R:Ending->World->Prop}
theorem zGZ{rs:List ResultVar}{v:Value}(h:(zB3 P rs ρ).run P w=.ok v w):(∃v,(zB3 P rs ρ).run P w=.ok v w/\R (.returned v) w)=R (.returned v) w:=by
 rw[h];simp
@[simp] theorem postL_n0:zIh P [] R .nrm ρ w=R (.returned (.tuple #[])) w:=zGZ zJo
@[simp] theorem postL_r0:zIh P [] R .ret ρ w=R (.returned (.tuple #[])) w:=zGZ zJo
@[simp] theorem postL_r1{t:Nat}:zIh P [.tmp t] R .ret ρ w=R (.returned (ρ t)) w:=zGZ zSQ
@[simp] theorem postL_r2{t u:Nat}:zIh P [.tmp t,.tmp u] R .ret ρ w=R (.returned (.tuple #[ρ t,ρ u])) w:=zGZ zSP
end
theorem zH{n:Int}(h0:-9223372036854775808<=n)(h1:n<=9223372036854775807):IntKind.i64.wrap n=n:=by
 have hb:IntKind.i64.bits=64:=rfl;have hs:IntKind.i64.signed=true:=rfl;simp only[IntKind.wrap,hb,hs,Bool.true_and,decide_eq_true_eq];have e1:(2^64:Int)=18446744073709551616:=by decide
 have e2:(2^(64-1):Int)=9223372036854775808:=by decide
 rw[e1,e2];split<;>omega
end
section
open Go
structure Kp(S:List Nat)(w w':World):Prop where
 os:w'.os=w.os
 tape:w'.tape=w.tape
 output:w'.output=w.output
 size:w.heap.size<=w'.heap.size
 block:∀b,b<w.heap.size->b∉S->w'.heap[b]? = w.heap[b]?
theorem Kp.refl(S:List Nat)(w:World):Kp S w w:=⟨rfl,rfl,rfl,Nat.le_refl _,fun _ _ _=>rfl⟩
theorem Kp.trans'{S S':List Nat}{a b c:World}(h:Kp S a b)(k:Kp S' b c)(hs:∀x∈S',x∈S\/a.heap.size<=x):Kp S a c :=
 ⟨k.os.trans h.os,k.tape.trans h.tape,k.output.trans h.output,Nat.le_trans h.size k.size,fun i hi hn=>(k.block i (Nat.lt_of_lt_of_le hi h.size) (fun hm=>by
  rcases hs i hm with h1|h1
  ·exact hn h1
  ·omega)).trans (h.block i hi hn)⟩
theorem Kp.trans{S:List Nat}{a b c:World}(h:Kp S a b)(k:Kp S b c):Kp S a c:=h.trans' k fun _ h=>.inl h
theorem Kp.trans0{S:List Nat}{a b c:World}(h:Kp S a b)(k:Kp [] b c):Kp S a c:=h.trans' k fun _ h=>by cases h
theorem Kp.mono{S S':List Nat}{a b:World}(h:Kp S a b)(hs:∀x∈S,x∈S'):Kp S' a b:=⟨h.os,h.tape,h.output,h.size,fun i hi hn=>h.block i hi fun hm=>hn (hs i hm)⟩
theorem Kp.of0{S:List Nat}{a b:World}(h:Kp [] a b):Kp S a b:=h.mono fun _ h=>by cases h
theorem Kp.drew{S:List Nat}{a b:World}(h:Kp S a b):Kp S a b.drew:=⟨h.os,h.tape,h.output,h.size,h.block⟩
theorem Kp.alloc{S:List Nat}{a b:World}(h:Kp S a b)(o:Obj):Kp S a (b.alloc o) :=
 ⟨h.os,h.tape,h.output,by have:=h.size;simp;omega,fun i hi hn=>(zOi (Nat.lt_of_lt_of_le hi h.size)).trans (h.block i hi hn)⟩
theorem Kp.setB{S:List Nat}{a b:World}(h:Kp S a b){i:Nat}(hi:i∈S\/a.heap.size<=i)(o:Obj):Kp S a (b.setB i o) :=
 ⟨h.os,h.tape,h.output,by simpa using h.size,fun j hj hn=>(zSE (fun e=>by subst e;rcases hi with h1|h1;exact hn h1;omega)).trans (h.block j hj hn)⟩
theorem Kp.blk{S:List Nat}{w w':World}(h:Kp S w w'){b:Nat}{o:Obj}(hb:w.heap[b]? = some o)(hn:b∉S):w'.heap[b]? = some o:=(h.block b (zS hb) hn).trans hb
theorem Kp.cell{S:List Nat}{w w':World}(h:Kp S w w'){a:Addr}{v:Value}(hc:w.cell? a=some v)(hn:a.block∉S):w'.cell? a=some v:=by
 have JA:=World.block_lt_of_cell? w a hc;rw[World.cell?_of_block (h.block a.block JA hn)];exact hc
theorem Kp.below{w w':World}(h:Kp [] w w'):Go.RowKit.Below w.heap.size w w':=⟨h.os,h.tape,h.output,h.size,fun k hk=>h.block k hk (by simp)⟩
@[simp] theorem zIC{w:World}{a:Addr}:∀{n i:Nat},zK w.drew a i n=zK w a i n
 |0,_=>rfl
 |n+1,i=>by simp[zK,zIC (n:=n)]
@[simp] theorem zUC{w:World}{a:Addr}:zHa w.drew a=zHa w a:=rfl
end
section
open Go
def _root_.Go.Value.blk:Value->Nat
 |.slice (some a) _ _=>a.block
 |.pointer (some a)=>a.block
 |.map (some r)=>r
 |_=>0
def _root_.Go.Value.own:Value->List Nat
 |.slice (some a) _ _=>[a.block]
 |_=>[]
@[simp] theorem zHl{a:Addr}{n c:Nat}:(Value.slice (some a) n c).own=[a.block]:=rfl
@[simp] theorem own_nil{n c:Nat}:(Value.slice none n c).own=[]:=rfl
@[simp] theorem zIF{a:Addr}{n c:Nat}:(Value.slice (some a) n c).blk=a.block:=rfl
section
variable {α:Type} {enc:α->List Value} {sz:Nat}
theorem zJ(he:∀x,(enc x).length=sz)(l:List α):(l.flatMap enc).length=l.length*sz:=by
 induction l with
 |nil=>simp
 |cons x l ih=>simp[he,ih,Nat.add_mul];omega
theorem zDm(he:∀x,(enc x).length=sz):∀(l:List α) (k:Nat) (x:α),l[k]? = some x->∀o,o<sz->(l.flatMap enc)[k*sz+o]? = (enc x)[o]?
 |[],_,_,h,_,_=>by simp at h
 |y::l,0,x,h,o,ho=>by simp at h;subst h;simp only[List.flatMap_cons,Nat.zero_mul,Nat.zero_add];rw[List.getElem?_append_left (by rw[he];exact ho)]
 |y::l,k+1,x,h,o,ho=>by
  simp at h;simp only[List.flatMap_cons];have h1:(enc y).length<=(k+1)*sz+o:=by rw[he,Nat.add_mul];omega
  rw[List.getElem?_append_right h1,he];have:(k+1)*sz+o-sz=k*sz+o:=by rw[Nat.add_mul];omega
  rw[this];exact zDm he l k x h o ho
theorem zFB(he:∀x,(enc x).length=sz):∀(l:List α) (k:Nat) (x:α),k<l.length ->
  (l.set k x).flatMap enc=(l.flatMap enc).take (k*sz)++enc x++(l.flatMap enc).drop (k*sz+sz)
 |[],_,_,h=>by simp at h
 |y::l,0,x,h=>by have:=he y;simp[List.drop_append,this]
 |y::l,k+1,x,h=>by
  have ih:=zFB he l k x (by simpa using h);have hy:=he y;simp only[List.set_cons_succ,List.flatMap_cons,ih];have e1:(k+1)*sz=sz+k*sz:=by rw[Nat.add_mul];omega
  rw[e1,List.take_append,List.drop_append];have t1:List.take (sz+k*sz) (enc y)=enc y:=List.take_of_length_le (by omega);have t2:List.drop (sz+k*sz+sz) (enc y)=[]:=List.drop_of_length_le (by omega);rw[t1,t2,hy];have e2:sz+k*sz-sz=k*sz:=by omega
  have e3:sz+k*sz+sz-sz=k*sz+sz:=by omega
  rw[e2,e3];simp
theorem zBJ:∀(vs:List Value) (c:Array Value) (o:Nat),o+vs.length<=c.size->(zBh c o vs).toList=c.toList.take o++vs++c.toList.drop (o+vs.length)
 |[],c,o,_=>by simp
 |v::vs,c,o,h=>by
  simp only[List.length_cons] at h;simp only[zL0];rw[zBJ vs _ (o+1) (by simp;omega)];have JA:o<c.toList.length:=by simp;omega
  simp only[Array.toList_setIfInBounds,List.length_cons];rw[List.set_eq_take_append_cons_drop,if_pos JA];have hl:(c.toList.take o).length=o:=by simp;omega
  rw[List.take_append,List.drop_append,hl];have e1:o+1-o=1:=by omega
  have e2:o+1+vs.length-o=vs.length+1:=by omega
  have t1:List.take (o+1) (c.toList.take o)=c.toList.take o:=List.take_of_length_le (by omega);have t2:List.drop (o+1+vs.length) (c.toList.take o)=[]:=List.drop_of_length_le (by omega);rw[e1,e2,t1,t2];simp only[List.take_succ_cons,List.take_zero,List.drop_succ_cons,List.drop_drop,List.nil_append,List.append_assoc,List.cons_append];have e3:o+1+vs.length=o+(vs.length+1):=by omega
  rw[e3]
def Own(w:World)(v:Value)(E sz:Nat)(enc:α->List Value)(l:List α):Prop :=
 (v=.slice none 0 0/\l=[]) \/
 ∃g cap cur junk,v=.slice (some ⟨g,0,none⟩) l.length cap/\w.heap[g]? = some (.cells cur E (0,0))/\cur.toList=l.flatMap enc++junk/\l.length*sz+junk.length=cap*sz/\l.length<=cap/\cap<=maxLen
variable {w:World} {v:Value} {E:Nat} {l:List α}
theorem Own.nil(w:World)(E sz:Nat)(enc:α->List Value):Own w (.slice none 0 0) E sz enc []:=.inl ⟨rfl,rfl⟩
theorem Own.kp{S:List Nat}{w':World}(h:Own w v E sz enc l)(hk:Kp S w w')(hn:v.blk∉S):Own w' v E sz enc l:=by
 rcases h with h|⟨g,cap,cur,junk,rfl,hh,rest⟩
 ·exact .inl h
 ·exact .inr ⟨g,cap,cur,junk,rfl,hk.blk hh (by simpa using hn),rest⟩
theorem Own.drew(h:Own w v E sz enc l):Own w.drew v E sz enc l:=h
theorem Own.c1(h:Own w v E sz enc l):v.cells=#[v]:=by
 rcases h with⟨rfl,rfl⟩|⟨g,cap,cur,junk,rfl,hh,_⟩<;>rfl
theorem Own.o1(h:Own w v E sz enc l):zAn v=true:=by
 rcases h with⟨rfl,rfl⟩|⟨g,cap,cur,junk,rfl,hh,_⟩<;>rfl
theorem Own.blk_of(h:Own w v E sz enc l){S:List Nat}(hS:∀x∈v.own,x∉S){w':World}(hk:Kp S w w'):Own w' v E sz enc l:=by
 rcases h with h|⟨g,cap,cur,junk,rfl,hh,rest⟩
 ·exact .inl h
 ·exact .inr ⟨g,cap,cur,junk,rfl,hk.blk hh (hS g (by simp)),rest⟩
theorem Own.own_eq(h:Own w v E sz enc l){k:Nat}(hl:k<l.length):v.own=[v.blk]:=by
 rcases h with⟨_,rfl⟩|⟨g,cap,cur,junk,rfl,hh,_⟩
 ·simp at hl
 ·rfl
theorem Own.len{P:Program}{T:Nat}{K:zw Value}(h:Own w v E sz enc l):@zUJ P T v K=@gdH (zGp P T=true) ⟨fun _=>K.run (.int .i64 l.length)⟩:=by
 rcases h with⟨rfl,rfl⟩|⟨g,cap,cur,junk,rfl,_⟩
 ·rfl
 ·rfl
theorem Own.idx{P:Program}{T:Nat}{K:zw Value}{k:IntKind}{i:Int}(h:Own w v E sz enc l)(h0:0<=i)(h1:i<l.length) :
  @zNc P T v (.int k i) K=@zDw _ (zn P T) ⟨fun q=>K.run (.pointer (some ⟨v.blk,i.toNat*q.2.1,none⟩))⟩:=by
 rcases h with⟨rfl,rfl⟩|⟨g,cap,cur,junk,rfl,_⟩
 ·simp at h1;omega
 ·cases hs:zn P T with
  |none=>simp[hs,zDw,zCj]
  |some q=>simp[hs,h0,h1]
theorem Own.cell(h:Own w v E sz enc l)(he:∀x,(enc x).length=sz){k:Nat}{x:α}(hx:l[k]? = some x){o:Nat}(ho:o<sz):w.cell? ⟨v.blk,k*sz+o,none⟩=(enc x)[o]? := by
 have hk:k<l.length:=by rcases Nat.lt_or_ge k l.length with h1|h1;exact h1;rw[List.getElem?_eq_none h1] at hx;cases hx
 rcases h with⟨rfl,rfl⟩|⟨g,cap,cur,junk,rfl,hh,hc,hj,_⟩
 ·simp at hk
 ·rw[zIF,zA hh,<-Array.getElem?_toList,hc,List.getElem?_append_left,zDm he l k x hx o ho];rw[zJ he]
  calc k*sz+o<k*sz+sz:=by omega
   _=(k+1)*sz:=by rw[Nat.add_mul];omega
   _<=l.length*sz:=Nat.mul_le_mul_right _ hk
theorem zDr{a:Addr}:∀(cs:List Value) (i:Nat),(∀o,o<cs.length->w.cell? (a.add (i+o))=cs[o]?)->zK w a i cs.length=some cs
 |[],_,_=>rfl
 |c::cs,i,h=>by have h0:=h 0 (by simp);simp at h0;have ih:=zDr cs (i+1) (fun o ho=>by have:=h (o+1) (by simpa using ho);rw[show i+1+o=i+(o+1) by omega];simpa using this);simp[zK,h0,ih]
theorem Own.cells(h:Own w v E sz enc l)(he:∀x,(enc x).length=sz){k:Nat}{x:α}(hx:l[k]? = some x):zK w ⟨v.blk,k*sz,none⟩ 0 sz=some (enc x):=by
 have:=zDr (w:=w) (a:=⟨v.blk,k*sz,none⟩) (enc x) 0 (fun o ho=>by rw[he] at ho;rw[zh,Nat.zero_add];exact h.cell he hx ho);rwa[he] at this
theorem Own.store{KW:zw World}(h:Own w v E sz enc l)(he:∀x,(enc x).length=sz)(h1:∀x,(enc x).all zAn=true){k:Nat}(hk:k<l.length){x:α}{cs:List Value}(JC:cs=enc x)
  (H:∀w',Kp [v.blk] w w'->w'.heap.size=w.heap.size->Own w' v E sz enc (l.set k x)->KW.run w'):@stJ w ⟨v.blk,k*sz,none⟩ cs KW:=by
 subst JC;rcases h with⟨rfl,rfl⟩|⟨g,cap,cur,junk,rfl,hh,hc,hj,JB,hm⟩
 ·simp at hk
 ·have hs:cur.size=cap*sz:=by have:=congrArg List.length hc;simp[zJ he] at this;omega
  have JA:k*sz+sz<=cur.size:=by
   rw[hs]
   calc k*sz+sz=(k+1)*sz:=by rw[Nat.add_mul];omega
    _<=cap*sz:=Nat.mul_le_mul_right _ (by omega)
  rw[zHR,zIF,zEh hh];simp only[zDJ,zJi];refine zHw (by have:=h1 x;simp only[List.all_eq_true] at this;simpa[he] using⟨JA,this⟩) ?_;refine H _ ((Kp.refl _ _).setB (.inl (by simp)) _) (by simp) ?_;have JD:k*sz+sz<=(l.flatMap enc).length:=by
   rw[zJ he]
   calc k*sz+sz=(k+1)*sz:=by rw[Nat.add_mul];omega
    _<=l.length*sz:=Nat.mul_le_mul_right _ hk
  refine .inr ⟨g,cap,_,junk,by simp,zAg (zS hh),?_,by simpa using hj,by simpa using JB,hm⟩;simp only[];rw[zBJ _ _ _ (by simpa[he] using JA),hc,zFB he l k x hk,he,List.take_append_of_le_length (by omega),List.drop_append_of_le_length (by omega)];simp
theorem Own.append{P:Program}{KV:zw (Value×World)}{T ty by_:Nat}{z:List Value}(h:Own w v E sz enc l)(he:∀x,(enc x).length=sz)(h1:∀x,(enc x).all zAn=true)
  (hT:zn P T=some (E,sz,by_,z)) {a:Addr} {m c:Nat} {xs:List α} (hm:xs.length=m) (hx:∀j u,(xs.flatMap enc)[j]? = some u->w.cell? (a.add j)=some u)
  (hb:(l.length+m)*by_<=140737488355328) (JB:l.length+m<=maxLen)
  (H:∀v' w',Kp v.own w w'->Own w' v' E sz enc (l++xs)->(∀x∈v'.own,x∈v.own\/w.heap.size<=x)->KV.run (v',w')) :
  @efH P (Builtin.append_ #[T,T] ty [v,.slice (some a) m c].toArray) w KV:=by
 obtain⟨i,zv,hu,hi,hz,rfl,rfl,rfl,JP,JE⟩:=zr hT;have JF:w.ownsRow 0 E i.size v l.length (l.flatMap enc):=by
  refine⟨zJ he l,?_⟩;rcases h with⟨rfl,rfl⟩|⟨g,cap,cur,junk,rfl,hh,hc,hj,JC,JD⟩
  ·exact .inl ⟨rfl,rfl⟩
  ·refine .inr ⟨g,cap,cur,rfl,Nat.zero_le _,hh,JC,JD,?_,?_⟩
   ·have:=congrArg List.length hc;simp[zJ he] at this;omega
   ·rw[hc,<-zJ he l,List.take_left]
 have JO:∀u∈xs.flatMap enc,u.oneCell'=true:=by intro u hu;obtain⟨x,_,JR⟩:=List.mem_flatMap.1 hu;have:=List.all_eq_true.1 (h1 x) u JR;cases u<;>simp_all [zAn,Value.oneCell']
 obtain⟨v',w',hr,ho,hg,hn⟩:=run_append_own (P:=P) w 0 T ty E i zv i.size i.bytes hu hi hz rfl rfl JP JE v l.length (l.flatMap enc) JF a m c (xs.flatMap enc) (by rw[zJ he,hm]) hx JO
  JB hb (Nat.zero_le _)
 refine zD8 (v:=v') (w':=w') (by simpa using hr) ?_;have JV:Kp v.own w w':=by refine⟨hg.os,hg.tape,hg.output,hg.size,fun b JX JS=>hg.block b JX (fun e=>JS ?_)⟩;cases v<;>simp[Value.ownBlock] at e;rename_i a' _ _;cases a'<;>simp[Value.ownBlock] at e;simp[e]
 refine H v' w' JV ?_ ?_
 ·obtain⟨JI,hc⟩:=ho;rcases hc with⟨rfl,h0⟩|⟨g,cap,cur,rfl,_,hh,JC,JD,hs,ht⟩
  ·refine .inl ⟨rfl,?_⟩;exact List.eq_nil_of_length_eq_zero (by rw[List.length_append,hm];exact h0)
  ·refine .inr ⟨g,cap,cur,cur.toList.drop ((l.length+m)*i.size),by simp[hm],hh,?_,?_,by simpa[hm] using JC,JD⟩
   ·rw[List.flatMap_append,<-ht,List.take_append_drop]
   ·simp only[List.length_append,List.length_drop,Array.length_toList,hs,hm];have:(l.length+m)*i.size<=cap*i.size:=Nat.mul_le_mul_right _ JC;omega
 · -- where the new slice lies
  obtain⟨JI,hc⟩:=ho;intro x JL;rcases hc with⟨rfl,h0⟩|⟨g,cap,cur,rfl,_,hh,JC,JD,hs,ht⟩
  ·cases JL
  ·have JQ:x=g:=by simpa using JL
   subst JQ;rcases Nat.lt_or_ge x w.heap.size with JZ|JW
   · -- an old block: the row itself
    left;rcases h with⟨rfl,rfl⟩|⟨g0,cap0,cur0,junk,rfl,JM,JN,hj,JU,JY⟩
    ·exfalso;by_cases JT:m=0
     ·have:=(hn.2 ⟨rfl,JT⟩);cases this
     ·have:=run_append_nil (P:=P) w T ty E i zv hu hi hz a m c (xs.flatMap enc) (by rw[zJ he,hm]) hx (by omega) (by simp[maxLen] at JB;omega) (by simp at hb;omega);simp only[List.length_nil,Nat.zero_add] at hr;rw[this] at hr;injection hr with e1 _;injection e1 with e2;simp at e2;omega
    ·rw[zHl];refine List.mem_singleton.2 ?_;by_cases JA:l.length+m<=cap0
     ·have:=run_append_room (P:=P) w T ty E i hu hi g0 l.length cap0 cur0 JM a m c (xs.flatMap enc) (by rw[zJ he,hm]) hx JO JA (by
       rw[zJ he,hm,<-Nat.add_mul];have:cur0.size=cap0*i.size:=by have:=congrArg List.length JN;simp[zJ he] at this;omega
       rw[this];exact Nat.mul_le_mul_right _ JA)
      rw[this] at hr;injection hr with e1 _;injection e1 with e2;simp at e2;exact e2.symm
     ·have JG:∀j u,(l.flatMap enc)[j]? = some u->w.cell? ((⟨g0,0,none⟩:Addr).add j)=some u:=by
       intro j u JK;rw[zh,Nat.zero_add,zA JM,<-Array.getElem?_toList,JN];have JH:j<(l.flatMap enc).length:=by
        rcases Nat.lt_or_ge j (l.flatMap enc).length with h'|h'
        ·exact h'
        ·rw[List.getElem?_eq_none h'] at JK;cases JK
       rw[List.getElem?_append_left JH];exact JK
      have:=run_append_grow (P:=P) w T ty E i zv hu hi hz ⟨g0,0,none⟩ l.length cap0 (l.flatMap enc) (zJ he l) JG a m c (xs.flatMap enc) (by rw[zJ he,hm]) hx (by omega)
       (by simp[maxLen] at JB;omega) (growslice_fits (by omega) hb)
      rw[this] at hr;injection hr with e1 _;injection e1 with e2;simp at e2;omega
   ·right;exact JW
end
section
variable {w:World}
theorem zR5{b o:Nat}{s:Option Nat}{c:Array Value}{E:Nat}{cs:List Value}{KW:zw World}(h:w.heap[b]? = some (.cells c E (0,0))) :
  @stJ w ⟨b,o,s⟩ cs KW=@gdH (s=none/\o+cs.length<=c.size/\cs.all zAn=true) ⟨fun _=>KW.run (w.setB b (.cells (zBh c o cs) E (0,0)))⟩:=by
 rw[zHR,zEh h];rfl
theorem zMI{b o:Nat}{c:Array Value}{E:Nat}{cs:List Value}{KW:zw World}(h:w.heap[b]? = some (.cells c E (0,0)))(hs:o+cs.length<=c.size)(h1:cs.all zAn=true)
  (H:∀w',Kp [b] w w'->w'.heap.size=w.heap.size->w'.heap[b]? = some (.cells (zBh c o cs) E (0,0))->KW.run w'):@stJ w ⟨b,o,none⟩ cs KW:=by
 rw[zR5 h];refine zHw ⟨rfl,hs,h1⟩ ?_;exact H _ ((Kp.refl _ _).setB (.inl (by simp)) _) (by simp) (zAg (zS h))
end
end
section
open Go
section
variable {α:Type} {enc:α->List Value} {sz:Nat}
def Vw(w:World)(v:Value)(enc:α->List Value)(l:List α):Prop :=
 (v=.slice none 0 0/\l=[]) \/
 ∃a cap,v=.slice (some a) l.length cap/\l.length<=cap/\(l≠[]->a.spot=none)/\∀j u,(l.flatMap enc)[j]? = some u->w.cell? (a.add j)=some u
def _root_.Go.Value.adr:Value->Addr
 |.slice (some a) _ _=>a
 |_=>⟨0,0,none⟩
@[simp] theorem zWk{a:Addr}{n c:Nat}:(Value.slice (some a) n c).adr=a:=rfl
variable {w:World} {v:Value} {E:Nat} {l:List α}
theorem Vw.nil(w:World)(enc:α->List Value):Vw w (.slice none 0 0) enc []:=.inl ⟨rfl,rfl⟩
theorem Own.vw(h:Own w v E sz enc l):Vw w v enc l:=by
 rcases h with h|⟨g,cap,cur,junk,rfl,hh,hc,hj,JB,hm⟩
 ·exact .inl h
 ·refine .inr ⟨_,cap,rfl,JB,fun _=>rfl,fun j u JA=>?_⟩;rw[zh,Nat.zero_add,zA hh,<-Array.getElem?_toList,hc,List.getElem?_append_left]
  ·exact JA
  ·exact(List.getElem?_eq_some_iff.1 JA).1
theorem Vw.kp{S:List Nat}{w':World}(h:Vw w v enc l)(hk:Kp S w w')(hS:∀x∈v.own,x∉S):Vw w' v enc l:=by
 rcases h with h|⟨a,cap,rfl,JA,hs,hc⟩
 ·exact .inl h
 ·refine .inr ⟨a,cap,rfl,JA,hs,fun j u hj=>hk.cell (hc j u hj) ?_⟩;have:(a.add j).block=a.block:=by unfold Addr.add;split<;>rfl
  rw[this];exact hS _ (by simp)
theorem Vw.kp0{w':World}(h:Vw w v enc l)(hk:Kp [] w w'):Vw w' v enc l:=h.kp hk (by simp)
theorem Vw.c1(h:Vw w v enc l):v.cells=#[v]:=by
 rcases h with⟨rfl,rfl⟩|⟨a,cap,rfl,_⟩<;>rfl
theorem Vw.o1(h:Vw w v enc l):zAn v=true:=by
 rcases h with⟨rfl,rfl⟩|⟨a,cap,rfl,_⟩<;>rfl
theorem Vw.len{P:Program}{T:Nat}{K:zw Value}(h:Vw w v enc l):@zUJ P T v K=@gdH (zGp P T=true) ⟨fun _=>K.run (.int .i64 l.length)⟩:=by
 rcases h with⟨rfl,rfl⟩|⟨a,cap,rfl,_⟩<;>rfl
theorem Vw.idx{P:Program}{T:Nat}{K:zw Value}{k:IntKind}{i:Int}(h:Vw w v enc l)(h0:0<=i)(h1:i<l.length) :
  @zNc P T v (.int k i) K=@zDw _ (zn P T) ⟨fun q=>K.run (.pointer (some (v.adr.add (i.toNat*q.2.1))))⟩:=by
 rcases h with⟨rfl,rfl⟩|⟨a,cap,rfl,_⟩
 ·simp at h1;omega
 ·cases hs:zn P T with
  |none=>simp[hs,zDw,zCj]
  |some q=>simp[hs,h0,h1]
theorem zCP{a:Addr}(hs:a.spot=none)(i j:Nat):(a.add i).add j=a.add (i+j):=by
 obtain⟨b,o,s⟩:=a
 dsimp only at hs
 subst hs;simp[Nat.add_assoc]
theorem Vw.at_(h:Vw w v enc l)(he:∀x,(enc x).length=sz){k:Nat}{x:α}(hx:l[k]? = some x){o:Nat}{u:Value}(hu:(enc x)[o]? = some u):w.cell? (v.adr.add (k*sz+o))=some u:=by
 have hk:k<l.length:=(List.getElem?_eq_some_iff.1 hx).1;have ho:o<sz:=by rw[<-he x];exact(List.getElem?_eq_some_iff.1 hu).1
 rcases h with⟨rfl,rfl⟩|⟨a,cap,rfl,JA,hs,hc⟩
 ·simp at hk
 ·exact hc _ _ (by rw[zDm he l k x hx o ho];exact hu)
theorem Vw.spot(h:Vw w v enc l){k:Nat}(hk:k<l.length):v.adr.spot=none:=by
 rcases h with⟨rfl,rfl⟩|⟨a,cap,rfl,JA,hs,hc⟩
 ·simp at hk
 ·exact hs (by rintro rfl;simp at hk)
theorem Vw.cells(h:Vw w v enc l)(he:∀x,(enc x).length=sz){k:Nat}{x:α}(hx:l[k]? = some x):zK w (v.adr.add (k*sz)) 0 sz=some (enc x):=by
 have hk:k<l.length:=(List.getElem?_eq_some_iff.1 hx).1;have:=zDr (w:=w) (a:=v.adr.add (k*sz)) (enc x) 0 (fun o ho=>by rw[zCP (h.spot hk),Nat.zero_add,h.at_ he hx (List.getElem?_eq_getElem ho),List.getElem?_eq_getElem ho]);rwa[he] at this
theorem Vw.cell{f:α->Value}(h:Vw w v (fun x=>[f x]) l){k:Nat}{x:α}(hx:l[k]? = some x):w.cell? (v.adr.add k)=some (f x):=by
 have:=h.at_ (sz:=1) (fun _=>rfl) hx (o:=0) (u:=f x) rfl;simpa using this
theorem Vw.fld(h:Vw w v enc l)(he:∀x,(enc x).length=sz){k:Nat}{x:α}(hx:l[k]? = some x){o:Nat}{u:Value}(hu:(enc x)[o]? = some u):w.cell? ((v.adr.add (k*sz)).add o)=some u:=by
 rw[zCP (h.spot (List.getElem?_eq_some_iff.1 hx).1)];exact h.at_ he hx hu
theorem Vw.slice{P:Program}{T e by_:Nat}{z:List Value}{K:zw Value}(h:Vw w v enc l)(he:∀x,(enc x).length=sz)(hT:zn P T=some (e,sz,by_,z)){lo hi:Nat}{k1 k2:IntKind}(h1:lo<=hi)(h2:hi<=l.length)
  (H:∀v',Vw w v' enc ((l.take hi).drop lo)->v'.own=v.own->K.run v'):@zPJ P (Instr.sliceAt T v (some (.int k1 lo)) (some (.int k2 hi)) none) K:=by
 obtain⟨i,zv,hu,JB,hz,rfl,_⟩:=zr hT;rcases h with⟨rfl,rfl⟩|⟨a,cap,rfl,JL,hs,hc⟩
 ·have e0:lo=0:=by simp at h2;omega
  have e1:hi=0:=by simp at h2;omega
  subst e0 e1;refine zA4 (v:=.slice none 0 0) (fun w'=>?_) (H _ (by simpa using Vw.nil w enc) rfl);simp[Instr.sliceAt,run_underlying hu,Instr.slice,Instr.sliceBounds,Instr.sliceBound,asIntOf,sizeOf,typeInfo,JB]
 ·have JF:((l.take hi).drop lo).length=hi-lo:=by simp;omega
  have JD:∀w',(Instr.sliceAt T (.slice (some a) l.length cap) (some (.int k1 lo)) (some (.int k2 hi)) none).run P w'=.ok (.slice (some (if cap=lo then a else a.add (lo*i.size))) (hi-lo) (cap-lo)) w':=by
   intro w';have c2:hi<=cap:=by omega
   by_cases JG:cap=lo
   ·simp[Instr.sliceAt,run_underlying hu,Instr.slice,Instr.sliceBounds,Instr.sliceBound,asIntOf,sizeOf,typeInfo,JB,h1,c2,JG];intro JK;omega
   ·simp[Instr.sliceAt,run_underlying hu,Instr.slice,Instr.sliceBounds,Instr.sliceBound,asIntOf,sizeOf,typeInfo,JB,h1,c2,JG]
  refine zA4 JD (H _ ?_ ?_)
  ·refine .inr ⟨_,cap-lo,by rw[JF],by rw[JF];omega,fun JI=>?_,fun j u hj=>?_⟩
   ·have hl:l≠[]:=by rintro rfl;simp at JI
    split
    ·exact hs hl
    ·unfold Addr.add;split<;>simp[hs hl]
   ·have JE:j<((l.take hi).drop lo).length*i.size:=by rw[<-zJ he];exact(List.getElem?_eq_some_iff.1 hj).1
    have JH:lo<hi:=by
     rcases Nat.lt_or_ge lo hi with h'|h'
     ·exact h'
     ·rw[JF,show hi-lo=0 by omega] at JE;simp at JE
    have hl:l≠[]:=by rintro rfl;simp at h2;omega
    rw[if_neg (by omega),zCP (hs hl)];refine hc _ _ ?_
    -- the cell lo*size+j of the whole is the cell j of the part
    have JA:l=l.take lo++((l.take hi).drop lo++l.drop hi):=by
     rw[<-List.append_assoc];have:l.take lo=(l.take hi).take lo:=by rw[List.take_take];congr 1;omega
     rw[this,List.take_append_drop,List.take_append_drop]
    have JC:(l.take lo).length=lo:=by simp;omega
    rw[JA,List.flatMap_append,List.flatMap_append,List.getElem?_append_right (by rw[zJ he,JC];omega),zJ he,JC];rw[show lo*i.size+j-lo*i.size=j by omega,List.getElem?_append_left (by rw[zJ he];exact JE)];exact hj
  ·split
   ·rfl
   ·simp only[zHl];unfold Addr.add;split<;>rfl
theorem Vw.slice_lo{P:Program}{T e by_:Nat}{z:List Value}{K:zw Value}(h:Vw w v enc l)(he:∀x,(enc x).length=sz)(hT:zn P T=some (e,sz,by_,z)){lo:Nat}{k1:IntKind}(h2:lo<=l.length)
  (H:∀v',Vw w v' enc (l.drop lo)->v'.own=v.own->K.run v'):@zPJ P (Instr.sliceAt T v (some (.int k1 lo)) none none) K:=by
 obtain⟨r,hr,hk⟩:=h.slice (P:=P) (k1:=k1) (k2:=.i64) (K:=K) he hT (lo:=lo) (hi:=l.length) h2 (Nat.le_refl _) (fun v' hv ho=>H v' (by simpa using hv) ho);obtain⟨i,zv,hu,JB,hz,rfl,_⟩:=zr hT;refine⟨r,fun w'=>?_,hk⟩;rw[<-hr w'];rcases h with⟨rfl,rfl⟩|⟨a,cap,rfl,JA,hs,hc⟩
 ·simp[Instr.sliceAt,run_underlying hu,Instr.slice,Instr.sliceBounds,Instr.sliceBound,asIntOf]
 ·simp[Instr.sliceAt,run_underlying hu,Instr.slice,Instr.sliceBounds,Instr.sliceBound,asIntOf,JA]
theorem Own.appendV{P:Program}{KV:zw (Value×World)}{T ty by_:Nat}{z:List Value}{u:Value}{xs:List α}(h:Own w v E sz enc l)(hu:Vw w u enc xs)(he:∀x,(enc x).length=sz)(h1:∀x,(enc x).all zAn=true)
  (hT:zn P T=some (E,sz,by_,z)) (hb:(l.length+xs.length)*by_<=140737488355328) (JB:l.length+xs.length<=maxLen)
  (H:∀v' w',Kp v.own w w'->Own w' v' E sz enc (l++xs)->(∀x∈v'.own,x∈v.own\/w.heap.size<=x)->KV.run (v',w')) :
  @efH P (Builtin.append_ #[T,T] ty [v,u].toArray) w KV:=by
 rcases hu with⟨rfl,rfl⟩|⟨a,cap,rfl,JC,hs,hc⟩
 ·obtain⟨i,zv,hu,JA,hz,rfl,rfl,rfl,JE,JD⟩:=zr hT;refine zD8 (v:=v) (w':=w) ?_ (H v w (Kp.refl _ _) (by simpa using h) (fun x hx=>.inl hx));rcases h with⟨rfl,rfl⟩|⟨g,cap,cur,junk,rfl,hh,hc,hj,JC,hm⟩
  ·simp[Builtin.append_,run_underlying hu,sizeOf,typeInfo,JA,Builtin.lenOf,Builtin.firstCells]
  ·simp[Builtin.append_,run_underlying hu,sizeOf,typeInfo,JA,Builtin.lenOf,Builtin.firstCells,JC,storeCells]
 ·exact h.append he h1 hT rfl hc hb JB H
theorem Own.slice_hi{P:Program}{T by_:Nat}{z:List Value}{K:zw Value}(h:Own w v E sz enc l)(he:∀x,(enc x).length=sz)(hT:zn P T=some (E,sz,by_,z)){hi:Nat}{k2:IntKind}(h2:hi<=l.length)
  (H:∀v',Own w v' E sz enc (l.take hi)->v'.own=v.own->K.run v'):@zPJ P (Instr.sliceAt T v none (some (.int k2 hi)) none) K:=by
 obtain⟨i,zv,hu,JB,hz,rfl,_⟩:=zr hT;rcases h with⟨rfl,rfl⟩|⟨g,cap,cur,junk,rfl,hh,hc,hj,JC,hm⟩
 ·have e1:hi=0:=by simp at h2;omega
  subst e1;refine zA4 (v:=.slice none 0 0) (fun w'=>?_) (H _ (by simpa using Own.nil w E i.size enc) rfl);simp[Instr.sliceAt,run_underlying hu,Instr.slice,Instr.sliceBounds,Instr.sliceBound,asIntOf,sizeOf,typeInfo,JB]
 ·have c2:hi<=cap:=by omega
  refine zA4 (v:=.slice (some ⟨g,0,none⟩) hi cap) (fun w'=>?_) (H _ ?_ rfl)
  ·simp[Instr.sliceAt,run_underlying hu,Instr.slice,Instr.sliceBounds,Instr.sliceBound,asIntOf,sizeOf,typeInfo,JB,c2]
  ·have JA:(l.take hi).length=hi:=by simp;omega
   refine .inr ⟨g,cap,cur,(l.drop hi).flatMap enc++junk,by rw[JA],hh,?_,?_,by omega,hm⟩
   ·rw[hc,<-List.append_assoc,<-List.flatMap_append,List.take_append_drop]
   ·rw[JA,List.length_append,zJ he,List.length_drop,<-hj,<-Nat.add_assoc,<-Nat.add_mul];congr 2;omega
end
end
section
open Go
def zJs(b0 b1:Nat)(K:Env->World->Prop)(Q:Ex->Env->World->Prop):Ex->Env->World->Prop
 |.nrm=>K
 |.exit i=>if i=b1 then K else if i=b0 then Q .nrm else Q (.exit i)
 |.ret=>Q .ret
@[simp] theorem zF3{b0 b1:Nat}{K:Env->World->Prop}{Q:Ex->Env->World->Prop}:zJs b0 b1 K Q .nrm=K:=rfl
@[simp] theorem zUD{b0 b1:Nat}{K:Env->World->Prop}{Q:Ex->Env->World->Prop}:zJs b0 b1 K Q .ret=Q .ret:=rfl
@[simp] theorem zIg{b0 b1 i:Nat}{K:Env->World->Prop}{Q:Ex->Env->World->Prop}:zJs b0 b1 K Q (.exit i)=if i=b1 then K else if i=b0 then Q .nrm else Q (.exit i):=rfl
theorem zF{P:Program}{Q:Ex->Env->World->Prop}{ρ:Env}{w:World}{b0 b1 c lim cs t T T1 T2 T3:Nat}{body:LCode}{n:Nat}(hn:n<=9223372036854775807)(I:Nat->Env->World->Prop)
  (hc:ρ c=.int .i64 0) (hl:ρ lim=.int .i64 n) (h0:I 0 ρ w)
  (hd:c≠cs/\lim≠cs/\lim≠c)
  (hs:∀k ρ w v,I k ρ w->I k (ρ.set cs v) w) (JE:∀k ρ w v,I k ρ w->I k (ρ.set c v) w)
  (hb:∀k ρ w,k<n->ρ c=.int .i64 k->ρ lim=.int .i64 n->I k ρ w->wpL P body (zJs b0 b1 (fun ρ' w'=>ρ' c=.int .i64 k/\ρ' lim=.int .i64 n/\I (k+1) ρ' w') Q) ρ w)
  (he:∀ρ w,I n ρ w->Q .nrm ρ w) :
  wpL P (.loop (.seq (.region false [[LO.mk 0 (some cs) (.binOp .lss T (.tmp c) (.tmp lim) T1) T2 none]] [cs]) (.seq (.cond (.tmp cs) .skip (.exit b0)) (.seq (.block b1 body)
   (.region false [[LO.mk 0 (some t) (.binOp .add T (.tmp c) (.const (.int .i64 1)) T1) T3 none,LO.mk 0 (some c) (.move (.tmp t)) T3 none]] [c]))))) (zCn b0 Q) ρ w:=by
 refine z8 (fun m ρ w=>∃k,m=n-k/\k<=n/\ρ c=.int .i64 k/\ρ lim=.int .i64 n/\I k ρ w) n ⟨0,by omega,Nat.zero_le _,hc,hl,h0⟩ ?_;rintro m ρ w ⟨k,rfl,JG,hc,hl,hI⟩;obtain⟨d1,d2,d3⟩:=hd;by_cases JF:k<n
 ·have JA:(k:Int)<n:=by omega
  simp[hc,hl,JA,d1,d2,d3];refine zBD body ?_ (hb k (ρ.set cs (.bool true)) w JF (by simp[d1,hc]) (by simp[d2,hl]) (hs _ _ _ _ hI));have JB:∀ρ' w',(ρ' c=.int .i64 k/\ρ' lim=.int .i64 n/\I (k+1) ρ' w') ->
    wpL P (.region false [[LO.mk 0 (some t) (.binOp .add T (.tmp c) (.const (.int .i64 1)) T1) T3 none,LO.mk 0 (some c) (.move (.tmp t)) T3 none]] [c]) (zCu (fun ρ'' w''=>∃m,m<n-k/\∃k,m=n-k/\k<=n/\ρ'' c=.int .i64 k/\ρ'' lim=.int .i64 n/\I k ρ'' w'') (zCn b0 Q)) ρ' w':=by
   rintro ρ' w' ⟨h1,h2,h3⟩;simp(disch:=omega)[h1,zH];refine⟨n-(k+1),by omega,k+1,rfl,by omega,rfl,?_,JE _ _ _ _ h3⟩;simp[d3,h2]
  intro e ρ' w' hk;cases e with
  |nrm=>exact JB _ _ hk
  |ret=>exact hk
  |exit i =>
   simp only[zIg] at hk;simp only[zFP];by_cases JC:i=b1
   ·rw[if_pos JC] at hk;rw[if_pos JC];exact JB _ _ hk
   ·rw[if_neg JC] at hk;rw[if_neg JC];show zCn b0 Q (.exit i) ρ' w';simp only[zFP];by_cases JD:i=b0
    ·rw[if_pos JD] at hk ⊢;exact hk
    ·rw[if_neg JD] at hk ⊢;exact hk
 ·have JA:¬(k:Int)<n:=by omega
  simp[hc,hl,JA,d1,d2,d3];have:k=n:=by omega
  subst this;exact he _ _ (hs _ _ _ _ hI)
end
section
open Go Go.ChangeShapes Go.WideShapes Go.ChangeAt Go.RowKit Go.Deep
section
variable {H:Type} {enc:TypeId×Value->H} {P:Program}
theorem zDC(hl:laidOutB P=true){W W':World}(hb:Below W.heap.size W W'):∀{ts:List TypeId} {vs:List Value} {ds:List (DataW H)} {ps:List MemPlace},
  (∀t∈ts,P.readableRec t=true/\t<P.types.size)->DataW.TrodAll enc P W 0 (fun _=>true) true ts vs ds ps->(∀x∈ps,x.block<W.heap.size) ->
  DataW.TrodAll enc P W' 0 (fun b=>decide (b<W.heap.size)) true ts vs ds ps
 |[],[],[],_,_,h,_=>h
 |t::ts,v::vs,d::ds,_,hr,⟨p,q,h1,h2,e⟩,JA=>by
  subst e;exact⟨p,q,Below.trod hl (hr t (by simp)).1 (hr t (by simp)).2 h1 hb (fun x hx=>JA x (by simp[hx])),
   zDC hl hb (fun t ht=>hr t (by simp[ht])) h2 (fun x hx=>JA x (by simp[hx])),rfl⟩
theorem zMq(hl:laidOutB P=true){f:Func}{s:ChangeSpec}{fresh:Bool}{W W':World}{args:Array Value}{ds:List (DataW H)}{before:List MemPlace}{tb:TypeId}
  (hr:∀t∈f.params.toList,P.readableRec t=true/\t<P.types.size) (JA:f.resultTypes=#[tb]) (JD:P.underlying tb=some .bool) (hv:s.vars=[])
  (hw:DataW.Whole enc P f.params.toList s.vars false W args.toList ds [] before) (JB:s.fn H (ds++[])={ results:=[.lit (.bool true)],args:=ds }) (hb:Below W.heap.size W W') :
  s.post enc P f false fresh false false W args (.bool true) W':=by
 have JE:=hw.lt;have JC:=hw;obtain⟨p,q,hA,hV,rfl,_,_⟩:=hw;rw[hv] at hV;obtain⟨_,rfl⟩:=trodVars_none hV;refine⟨ds,[],_,[],p,[],JC,?_,?_,?_,hb.frame _,fun h=>by cases h⟩
 ·rw[JB,JA];exact trodAll_mk1 (shut_bool JD true)
 ·rw[JB];exact zDC hl hb hr hA (fun x hx=>JE x (by simp[hx]))
 ·rw[hv,JB];rfl
theorem zPt{C:Checked}{os:Os}{f:FuncId}{fn:Func}{s:ChangeSpec}{conds:List PathCond}{fresh:Bool}{tb:TypeId}
  (own:ownKnob C.prog.godebug=none) (started:os.Started) (noInit:C.prog.inits.idxOf? f=none) (JG:C.prog.funcs[f]? = some fn)
  (witness:∃(w:World) (tape:Tape) (i:Input),w.os=os/\(w.forCall tape i).Shaped C.prog/\i.vars=[]/\Input.okWide C.prog (w.forCall tape i) .any w.heap.size f i /\
   s.pre6 enc C.prog fn conds false (w.forCall tape i).memory i.args/\({}:Assume).holds C.prog (lone (Frame.enter C.prog f i.args .normal) [] (w.forCall tape i)))
  (hl:laidOutB C.prog=true) (JE:(fn.params.toList.all fun t=>C.prog.readableRec t&&decide (t<C.prog.types.size))=true) (JB:fn.resultTypes=#[tb]) (JD:C.prog.underlying tb=some .bool) (hv:s.vars=[])
  (walk:∀(W:World) (base:Nat) (args:Array Value) (ds:List (DataW H)) (ps:List MemPlace),
   (∀(j:Nat) t v,fn.params[j]? = some t->args[j]? = some v->Value.okWide C.prog W .any base t v) ->
   DataW.TrodAll enc C.prog W 0 (fun _=>true) true fn.params.toList args.toList ds ps ->
   (DataW.weightsEach C.prog fn.params.toList ds).all (·<=reachBytes)=true ->
   s.fn H (ds++[])={ results:=[.lit (.bool true)],args:=ds } /\
   Calls C.prog f args W fun e W'=>∃v,e=.returned v/\v=.bool true/\Kp [] W W') :
  ReturnsInHanded {} C os f .any (s.pre6 enc C.prog fn conds false) (s.post enc C.prog fn false fresh false false):=by
 have hr:∀t∈fn.params.toList,C.prog.readableRec t=true/\t<C.prog.types.size:=fun t ht=>by have:=List.all_eq_true.1 JE t ht;rw[Bool.and_eq_true,decide_eq_true_eq] at this;exact this
 refine returnsInHanded_of_change_sized own started noInit JG witness ?_;intro W base args ds gs before JA hW _ JC _;have JH:=hW;obtain⟨p,q,hA,hV,rfl,_,_⟩:=hW;have JF:s.plain.varTypes C.prog=[]:=by have:s.plain.vars=s.vars:=rfl;simp[DataSpec.varTypes,this,hv]
 rw[hv] at hV;obtain⟨rfl,rfl⟩:=trodVars_none hV;rw[JF,List.append_nil,List.append_nil] at JC;obtain⟨h1,h2⟩:=walk W base args ds p JA hA JC;refine h2.mono ?_;rintro e W' ⟨v,rfl,rfl,hk⟩;exact⟨_,rfl,zMq hl hr JB JD hv JH h1 hk.below⟩
end
end
section
open Go
abbrev Asr:=World->List Nat->Prop
def Sub(w:World)(F F':List Nat):Prop:=∀x∈F',x∈F\/w.heap.size<=x
theorem Sub.refl(w:World)(F:List Nat):Sub w F F:=fun _ h=>.inl h
structure Lcl(A:Asr):Prop where
 lt:∀{w F},A w F->∀x∈F,x<w.heap.size
 kp:∀{w F G w'},A w F->Kp G w w'->(∀x∈F,x∉G)->A w' F
def zC(A B:Asr):Asr:=fun w F=>∃Fa Fb,A w Fa/\B w Fb/\(∀x∈Fa,x∉Fb)/\F=Fa++Fb
def Emp:Asr:=fun _ F=>F=[]
theorem Lcl.emp:Lcl Emp:=by
 refine⟨?_,?_⟩
 ·rintro w F rfl x hx;cases hx
 ·rintro w F G w' rfl _ _;rfl
theorem Lcl.star{A B:Asr}(ha:Lcl A)(hb:Lcl B):Lcl (zC A B):=by
 refine⟨?_,?_⟩
 ·rintro w F ⟨Fa,Fb,h1,h2,hd,rfl⟩ x hx;rcases List.mem_append.1 hx with h|h
  ·exact ha.lt h1 x h
  ·exact hb.lt h2 x h
 ·rintro w F G w' ⟨Fa,Fb,h1,h2,hd,rfl⟩ hk hG;exact⟨Fa,Fb,ha.kp h1 hk (fun x hx=>hG x (by simp[hx])),hb.kp h2 hk (fun x hx=>hG x (by simp[hx])),hd,rfl⟩
def zM{α:Type}(v:Value)(E sz:Nat)(enc:α->List Value)(l:List α):Asr:=fun w F=>Own w v E sz enc l/\F=v.own
theorem Lcl.own{α:Type}{v:Value}{E sz:Nat}{enc:α->List Value}{l:List α}:Lcl (zM v E sz enc l):=by
 refine⟨?_,?_⟩
 ·rintro w F ⟨h,rfl⟩ x hx;rcases h with⟨rfl,_⟩|⟨g,cap,cur,junk,rfl,hh,_⟩
  ·cases hx
  ·simp at hx;subst hx;exact zS hh
 ·rintro w F G w' ⟨h,rfl⟩ hk hd;exact⟨h.blk_of hd hk,rfl⟩
def zL(b:Nat)(o:Obj):Asr:=fun w F=>w.heap[b]? = some o/\F=[b]
theorem Lcl.obj{b:Nat}{o:Obj}:Lcl (zL b o):=by
 refine⟨?_,?_⟩
 ·rintro w F ⟨h,rfl⟩ x hx;simp at hx;subst hx;exact zS h
 ·rintro w F G w' ⟨h,rfl⟩ hk hd;exact⟨hk.blk h (hd b (by simp)),rfl⟩
end
section
open Go
@[simp] theorem gd_undef{b:Bool}{KB:zw Bool}:@guH undef b KB=KB.run false:=by simp[undef]
def intT(P:Program)(k:IntKind)(e:TypeId):Bool:=P.plainKey e&&(match P.underlying e with|some (.int k')=>k'==k|_=>false)
theorem zS7{P:Program}{k:IntKind}{e:TypeId}(h:intT P k e=true):P.plainKey e=true/\P.underlying e=some (.int k):=by
 simp only[intT,Bool.and_eq_true] at h;refine⟨h.1,?_⟩;have h2:=h.2;split at h2
 ·rename_i k' hk;rw[hk];have:k'=k:=by simpa using h2
  rw[this]
 ·cases h2
def zDn(P:Program)(k:IntKind):Nat->List Field->Bool
 |_,[]=>true
 | o, f :: fs => f.offset == o && f.name != "_" && intT P k f.type && zDn P k (o + 1) fs
section
variable {P:Program} {k:IntKind} {T:TypeId} {la lb:List Int} {x y:Operand} {w:World} {K:zw Value}
end
theorem zHZ{α:Type}{enc:α->List Value}(x:α):∀n,zW (enc x) n=(List.replicate n x).flatMap enc
 |0=>rfl
 |n+1=>by simp[zW,List.replicate_succ,zHZ x n]
theorem Own.made{α:Type}{enc:α->List Value}{E sz n:Nat}{x:α}{z:List Value}{w:World}(hz:z=enc x)(he:∀x,(enc x).length=sz)(hn:n<=maxLen) :
  Own (w.alloc (.cells (zW z n).toArray E)) (.slice (some ⟨w.heap.size,0,none⟩) n n) E sz enc (List.replicate n x):=by
 subst hz;refine .inr ⟨w.heap.size,n,_,[],by simp,zO,?_,by simp,by simp,hn⟩;simp[zHZ]
section
variable {α:Type} {enc:α->List Value} {E sz:Nat} {l:List α} {v:Value} {B:Asr} {w w1:World}
end
end
section
open Go Go.Maps
section
variable {κ α:Type} [DecidableEq κ] {ek:κ->Value} {ev:α->Value} {ok:κ->Prop} {P:Program} {k e t:TypeId}
structure zCs(P:Program)(k:TypeId)(ek:κ->Value)(ok:κ->Prop):Prop where
 keyed:Keyed P k
 lit:∀x,ok x->∃l,keyOf P k (ek x)=some l
 inj:∀x y,ek x=ek y->x=y
def zBw(l:List (κ×α))(x:κ):Option α:=(l.find? fun p=>decide (p.1=x)).map (·.2)
def zB5(l:List (κ×α))(x:κ)(v:α):List (κ×α):=if l.any (fun p=>decide (p.1=x)) then l.map fun p=>if p.1=x then(x,v) else p else l++[(x,v)]
def zAw(w:World)(b:Nat)(ek:κ->Value)(ev:α->Value)(ok:κ->Prop)(l:List (κ×α)):Prop :=
 ∃es clock,w.heap[b]? = some (.map es clock)/\es.size<=maxLen/\es.toList.map (fun x=>(x.key,x.val))=l.map (fun p=>(ek p.1,ev p.2))/\(∀p∈l,ok p.1)/\(l.map (·.1)).Nodup/\MapKept.Stamped es clock
theorem zAw.lt{w:World}{b:Nat}{l:List (κ×α)}(h:zAw w b ek ev ok l):b<w.heap.size:=by
 obtain⟨es,clock,hb,_⟩:=h;exact zS hb
theorem zAw.ext{w w':World}{b:Nat}{l:List (κ×α)}(h:zAw w b ek ev ok l)(hx:zFf w w'):zAw w' b ek ev ok l:=by
 obtain⟨es,clock,hb,r⟩:=h;exact⟨es,clock,hx _ _ hb,r⟩
theorem zAw.kp{S:List Nat}{w w':World}{b:Nat}{l:List (κ×α)}(h:zAw w b ek ev ok l)(hk:Kp S w w')(hb:b∉S):zAw w' b ek ev ok l:=by
 obtain⟨es,clock,h1,r⟩:=h;exact⟨es,clock,hk.blk h1 hb,r⟩
theorem zAw.new(w:World):zAw (w.alloc (.map #[] 0)) w.heap.size ek ev ok ([]:List (κ×α)):=⟨#[],0,zO,Nat.zero_le _,rfl,by simp,by simp,MapKept.stamped_empty _⟩
theorem zNo{l:List (κ×α)}{x:κ}(h:∀p∈l,p.1≠x):zBw l x=none:=by
 simp only[zBw,Option.map_eq_none_iff,List.find?_eq_none];intro p hp;simpa using h p hp
theorem zHx:∀{l:List (κ×α)} {j:Nat} {p:κ×α},(l.map (·.1)).Nodup->l[j]? = some p->zBw l p.1=some p.2
 |[],j,p,_,h=>by simp at h
 |q::l,0,p,_,h=>by simp at h;subst h;simp[zBw]
 |q::l,j+1,p,hn,h=>by simp at h;simp only[List.map_cons,List.nodup_cons] at hn;have JA:q.1≠p.1:=fun e=>hn.1 (by rw[e];exact List.mem_map.2 ⟨p,List.mem_of_getElem? h,rfl⟩);have:=zHx hn.2 h;simp only[zBw] at this ⊢;rw[List.find?_cons_of_neg (by simpa using JA)];exact this
theorem zAw.find{w w':World}{b:Nat}{l:List (κ×α)}(hk:zCs P k ek ok){es:Array MapEntry}(JF:es.toList.map (fun x=>(x.key,x.val))=l.map (fun p=>(ek p.1,ev p.2)))(JG:∀p∈l,ok p.1){x:κ}(hx:ok x) :
  ((Instr.findKey k (ek x) es.toList).run P w=.ok none w/\∀p∈l,p.1≠x) \/
  ∃j v e0,(Instr.findKey k (ek x) es.toList).run P w=.ok (some (j,ev v)) w/\l[j]? = some (x,v)/\es[j]? = some e0/\e0.key=ek x:=by
 obtain⟨lx,JH⟩:=hk.lit x hx;have JC:∀(j:Nat) (e0:MapEntry),es.toList[j]? = some e0->∃p:κ×α,l[j]? = some p/\e0.key=ek p.1/\e0.val=ev p.2:=fun j e0 he=>by
  have:=congrArg (·[j]?) JF;simp only[List.getElem?_map,he,Option.map_some] at this;cases hp:l[j]? with
  |none=>rw[hp] at this;cases this
  |some p =>rw[hp] at this;simp only[Option.map_some,Option.some.injEq,Prod.mk.injEq] at this;exact⟨p,rfl,this.1,this.2⟩
 rcases hk.keyed.find w JH es.toList (fun e0 he=>by obtain⟨j,hj⟩:=List.getElem?_of_mem he;obtain⟨p,hp,h1,_⟩:=JC j e0 hj;rw[h1];exact hk.lit _ (JG p (List.mem_of_getElem? hp))) with⟨h1,h2⟩|⟨j,e0,h1,h2,h3⟩
 ·refine .inl ⟨h1,fun p hp JB=>?_⟩;obtain⟨j,hj⟩:=List.getElem?_of_mem hp;have JA:=congrArg List.length JF;simp only[List.length_map] at JA;have JE:j<es.toList.length:=by rw[JA];exact(List.getElem?_eq_some_iff.1 hj).1
  obtain⟨p',JD,h4,_⟩:=JC j _ (List.getElem?_eq_getElem JE);rw[hj] at JD;cases JD;exact h2 _ (List.getElem_mem JE) (by rw[h4,JB])
 ·obtain⟨p,hp,h4,h5⟩:=JC j e0 h2;have JB:p.1=x:=hk.inj _ _ (by rw[<-h4,h3]);refine .inr ⟨j,p.2,e0,by rw[<-h5];exact h1,by rw[hp,<-JB],by simpa using h2,h3⟩
theorem zAw.look{w:World}{b:Nat}{l:List (κ×α)}(h:zAw w b ek ev ok l)(hk:zCs P k ek ok)(ht:P.underlying t=some (.map k e)){z:Value}(hz:(zeroValue e).run P w=.ok z w){x:κ}(hx:ok x)(c:Bool) :
  (Instr.lookup t (.map (some b)) (ek x) c).run P w=.ok (if c then .tuple #[((zBw l x).map ev).getD z,.bool (zBw l x).isSome] else((zBw l x).map ev).getD z) w:=by
 obtain⟨es,clock,hb,_,JD,JB,JC,_⟩:=h;obtain⟨lx,JA⟩:=hk.lit x hx;rcases zAw.find (w:=w) (w':=w) (b:=b) hk JD JB hx with⟨h1,h2⟩|⟨j,v,e0,h1,h2,h3,h4⟩
 ·have hg:=zNo h2;simp[Instr.lookup,run_underlying ht,MapKept.run_getObj_map hb,hk.keyed.check w _ JA,h1,hz,Result.andThen,hg]
 ·have hg:=zHx JC h2;simp only at hg;simp[Instr.lookup,run_underlying ht,MapKept.run_getObj_map hb,hk.keyed.check w _ JA,h1,Result.andThen,hg]
theorem zAw.store{w:World}{b:Nat}{l:List (κ×α)}(h:zAw w b ek ev ok l)(hk:zCs P k ek ok)(ht:P.underlying t=some (.map k e)){x:κ}(hx:ok x)(v:α)(hl:l.length<maxLen) :
  ∃o,(Instr.mapUpdate t (.map (some b)) (ek x) (ev v)).run P w=.ok () (w.setB b o)/\zAw (w.setB b o) b ek ev ok (zB5 l x v):=by
 obtain⟨es,clock,hb,JO,JC,JG,JH,JL⟩:=h;obtain⟨lx,JK⟩:=hk.lit x hx;have e1:es.size=l.length:=by have:=congrArg List.length JC;simpa using this
 rcases zAw.find (w:=w) (w':=w) (b:=b) hk JC JG hx with⟨h1,h2⟩|⟨j,u,e0,h1,h2,h3,h4⟩
 ·refine⟨.map (es.push ⟨ek x,ev v,clock⟩) (clock+1),?_,_,_,zAg (zS hb),by simp;omega,?_,?_,?_,MapKept.stamped_push JL (fun e he JQ=>?_)⟩
  ·simp[Instr.mapUpdate,run_underlying ht,MapKept.run_getObj_map hb,hk.keyed.check w false JK,h1,MapKept.run_setObj_map _ hb,Result.andThen,World.setB]
  all_goals
   have hp:zB5 l x v=l++[(x,v)]:=by rw[zB5,if_neg];simp only[List.any_eq_true,decide_eq_true_eq,not_exists,not_and];exact h2
   try rw[hp]
  ·simp[JC]
  ·intro p JA;rcases List.mem_append.1 JA with h|h
   ·exact JG p h
   ·simp at h;subst h;exact hx
  ·rw[List.map_append,List.nodup_append];refine⟨JH,by simp,fun a ha c hc=>?_⟩;simp at hc;subst hc;obtain⟨p,JA,rfl⟩:=List.mem_map.1 ha;exact h2 p JA
  ·obtain⟨j,hj⟩:=List.getElem?_of_mem he;have:=congrArg (·[j]?) JC;simp only[List.getElem?_map,hj,Option.map_some] at this;cases JA:l[j]? with
   |none=>rw[JA] at this;cases this
   |some p =>rw[JA] at this;simp only[Option.map_some,Option.some.injEq,Prod.mk.injEq] at this;exact h2 p (List.mem_of_getElem? JA) (hk.inj _ _ (by rw[<-this.1];exact JQ))
 ·have hp:zB5 l x v=l.map fun p=>if p.1=x then(x,v) else p:=by rw[zB5,if_pos];simp only[List.any_eq_true,decide_eq_true_eq];exact⟨_,List.mem_of_getElem? h2,rfl⟩
  have JE:(l.map fun p=>if p.1=x then(x,v) else p)=l.set j (x,v):=by
   refine List.ext_getElem (by simp) fun i hi JP=>?_;rw[List.getElem_map,List.getElem_set];have JD:i<l.length:=by simpa using hi
   by_cases JB:j=i
   ·subst JB;rw[if_pos rfl];rw[List.getElem?_eq_getElem JD] at h2;rw[if_pos (by rw[Option.some.inj h2])]
   ·rw[if_neg JB,if_neg];intro he;have JN:j<l.length:=(List.getElem?_eq_some_iff.1 h2).1;rw[List.getElem?_eq_getElem JN] at h2;have h5:(l.map (·.1))[i]'(by simpa using JD)=(l.map (·.1))[j]'(by simpa using JN):=by simp only[List.getElem_map];rw[he,Option.some.inj h2]
    exact JB ((List.getElem_inj JH).1 h5).symm
  have JI:(es.modify j (fun e'=>{ e' with key:=ek x,val:=ev v })).toList=es.toList.set j ⟨ek x,ev v,e0.born⟩:=by
   have he:es.toList[j]? = some e0:=by simpa using h3
   refine List.ext_getElem (by simp) fun i hi JP=>?_;simp only[Array.getElem_toList,Array.getElem_modify,List.getElem_set];by_cases JB:j=i
   ·subst JB;have JD:j<es.size:=by simpa using hi
    rw[if_pos rfl,if_pos rfl];have:es[j]=e0:=by rw[Array.getElem?_eq_getElem JD] at h3;exact Option.some.inj h3
    rw[this]
   ·rw[if_neg JB,if_neg JB]
  refine⟨.map (es.modify j (fun e'=>{ e' with key:=ek x,val:=ev v })) clock,?_,_,_,zAg (zS hb),by simpa using JO,?_,?_,?_,MapKept.stamped_modify JL _ _ (fun _ _=>rfl) (fun e _ he=>?_)⟩
  ·simp[Instr.mapUpdate,run_underlying ht,MapKept.run_getObj_map hb,hk.keyed.check w false JK,h1,h3,h4,hk.keyed.stays w JK,MapKept.run_setObj_map _ hb,Result.andThen,World.setB]
  ·rw[hp,JE,JI,List.map_set,List.map_set,JC]
  ·rw[hp];intro p JA;obtain⟨q,hq,rfl⟩:=List.mem_map.1 JA;by_cases JM:q.1=x
   ·rw[if_pos JM];exact hx
   ·rw[if_neg JM];exact JG q hq
  ·rw[hp];have:(l.map fun p=>if p.1=x then(x,v) else p).map (·.1)=l.map (·.1):=by
    rw[List.map_map];refine List.map_congr_left fun p _=>?_;simp only[Function.comp];by_cases JF:p.1=x
    ·rw[if_pos JF,JF]
    ·rw[if_neg JF]
   rw[this];exact JH
  ·rw[h3] at he;rw[<-Option.some.inj he];exact h4.symm
end
end
end Go.W
section
namespace Go.W
open Go
structure At(w:World)(F:List Nat)(A:Asr)(w1:World):Prop where
 ex:∃F',A w1 F'/\Sub w F F'
 kp:Kp F w w1
theorem At.start{w:World}{F:List Nat}{A:Asr}(h:A w F):At w F A w:=⟨⟨F,h,Sub.refl w F⟩,Kp.refl _ _⟩
section
variable {w w1 w2:World} {F:List Nat} {A A' B C D:Asr}
theorem At.imp(h:At w F A w1)(hi:∀F1,A w1 F1->∃F',A' w1 F'/\∀x∈F',x∈F1):At w F A' w1:=by
 obtain⟨⟨F1,h1,hn⟩,k⟩:=h;obtain⟨F',h2,hs⟩:=hi F1 h1;exact⟨⟨F',h2,fun x hx=>hn x (hs x hx)⟩,k⟩
theorem At.swap(h:At w F (zC A B) w1):At w F (zC B A) w1:=h.imp fun F1 ⟨Fa,Fb,h1,h2,hd,e⟩=>⟨_,⟨Fb,Fa,h2,h1,fun x hx JA=>hd x JA hx,rfl⟩,fun x hx=>by
 rw[e];simpa[or_comm] using hx⟩
theorem At.rot(h:At w F (zC A (zC B C)) w1):At w F (zC B (zC A C)) w1:=h.imp fun F1 ⟨Fa,Fx,h1,⟨Fb,Fc,h2,h3,hd,ex⟩,JA,e⟩=>by
 subst ex e;refine⟨_,⟨Fb,_,h2,⟨Fa,Fc,h1,h3,fun x hx hc=>JA x hx (by simp[hc]),rfl⟩,fun x hx JB=>?_,rfl⟩,fun x hx=>?_⟩
 ·rcases List.mem_append.1 JB with h|h
  ·exact JA x h (by simp[hx])
  ·exact hd x hx h
 ·simp only[List.mem_append] at hx ⊢;rcases hx with h|h|h
  ·exact .inr (.inl h)
  ·exact .inl h
  ·exact .inr (.inr h)
theorem At.rot3(h:At w F (zC A (zC B (zC C D))) w1):At w F (zC C (zC A (zC B D))) w1:=h.imp fun F1 ⟨Fa,Fx,h1,⟨Fb,Fy,h2,⟨Fc,Fd,h3,h4,d1,e1⟩,d2,e2⟩,d3,e3⟩=>by
 subst e1 e2 e3;refine⟨_,⟨Fc,_,h3,⟨Fa,_,h1,⟨Fb,Fd,h2,h4,fun x hx hd=>d2 x hx (by simp[hd]),rfl⟩,fun x hx hm=>?_,rfl⟩,fun x hx hm=>?_,rfl⟩,fun x hx=>?_⟩
 ·rcases List.mem_append.1 hm with h|h
  ·exact d3 x hx (by simp[h])
  ·exact d3 x hx (by simp[h])
 ·simp only[List.mem_append] at hm;rcases hm with h|h|h
  ·exact d3 x h (by simp[hx])
  ·exact d2 x h (by simp[hx])
  ·exact d1 x hx h
 ·simp only[List.mem_append] at hx ⊢;rcases hx with h|h|h|h
  ·exact .inr (.inr (.inl h))
  ·exact .inl h
  ·exact .inr (.inl h)
  ·exact .inr (.inr (.inr h))
theorem At.kp0(hl:Lcl A)(h:At w F A w1)(hk:Kp [] w1 w2):At w F A w2:=by
 obtain⟨⟨F1,h1,hn⟩,k⟩:=h;exact⟨⟨F1,hl.kp h1 hk (by simp),hn⟩,k.trans0 hk⟩
theorem At.step(hA:Lcl A)(hB:Lcl B)(h:At w F (zC A B) w1)(hk:∀Fa,A w1 Fa->∃F',A' w2 F'/\Kp Fa w1 w2/\Sub w1 Fa F'):At w F (zC A' B) w2:=by
 obtain⟨⟨F1,⟨Fa,Fb,h1,h2,hd,rfl⟩,hn⟩,k⟩:=h;obtain⟨F',h',JB,hs⟩:=hk Fa h1;refine⟨⟨_,⟨F',Fb,h',hB.kp h2 JB (fun x hx JC=>hd x JC hx),fun x hx JA=>?_,rfl⟩,fun x hx=>?_⟩,k.trans' JB (fun x hx=>hn x (by simp[hx]))⟩
 ·rcases hs x hx with h3|h3
  ·exact hd x h3 JA
  ·have:=hB.lt h2 x JA;omega
 ·rcases List.mem_append.1 hx with h3|h3
  ·rcases hs x h3 with h4|h4
   ·exact hn x (by simp[h4])
   ·have:=k.size;exact .inr (by omega)
  ·exact hn x (by simp[h3])
theorem At.more(hB:Lcl B)(h:At w F B w1)(hk:Kp [] w1 w2)(ha:∃F1,A w2 F1/\∀x∈F1,w1.heap.size<=x):At w F (zC A B) w2:=by
 obtain⟨⟨Fb,h1,hn⟩,k⟩:=h;obtain⟨Fa,h2,JA⟩:=ha;refine⟨⟨_,⟨Fa,Fb,h2,hB.kp h1 hk (by simp),fun x hx JB=>?_,rfl⟩,fun x hx=>?_⟩,k.trans0 hk⟩
 ·have:=hB.lt h1 x JB;have:=JA x hx;omega
 ·rcases List.mem_append.1 hx with h3|h3
  ·have:=JA x h3;have:=k.size;exact .inr (by omega)
  ·exact hn x h3
theorem At.drop(h:At w F (zC A B) w1):At w F B w1:=h.imp fun F1 ⟨Fa,Fb,h1,h2,hd,e⟩=>⟨Fb,h2,fun x hx=>by rw[e];simp[hx]⟩
theorem At.get(h:At w F (zC A B) w1):∃F1,A w1 F1:=by
 obtain⟨⟨F1,⟨Fa,Fb,h1,_⟩,_⟩,_⟩:=h;exact⟨Fa,h1⟩
theorem At.obj{b:Nat}{o:Obj}(h:At w F (zC (zL b o) B) w1):w1.heap[b]? = some o:=by
 obtain⟨F1,h1⟩:=h.get;exact h1.1
theorem At.setB{b:Nat}{o o':Obj}(hB:Lcl B)(h:At w F (zC (zL b o) B) w1):At w F (zC (zL b o') B) (w1.setB b o'):=by
 refine h.step Lcl.obj hB ?_;rintro Fa ⟨h1,rfl⟩;exact⟨[b],⟨zAg (zS h1),rfl⟩,(Kp.refl _ _).setB (.inl (by simp)) _,fun x hx=>.inl hx⟩
theorem At.alloc(o:Obj)(hB:Lcl B)(h:At w F B w1):At w F (zC (zL w1.heap.size o) B) (w1.alloc o) :=
 h.more hB ((Kp.refl _ _).alloc _) ⟨_,⟨zO,rfl⟩,by simp⟩
theorem At.drew(hA:Lcl A)(h:At w F A w1):At w F A w1.drew:=h.kp0 hA (Kp.refl [] w1).drew
end
section
variable {α:Type} {enc:α->List Value} {E sz:Nat} {l:List α} {v:Value} {B:Asr} {w w1:World} {F:List Nat}
theorem At.own(h:At w F (zC (zM v E sz enc l) B) w1):Own w1 v E sz enc l:=by
 obtain⟨F1,h1,_⟩:=h.get;exact h1
theorem At.store{KW:zw World}(hB:Lcl B)(h:At w F (zC (zM v E sz enc l) B) w1)(he:∀x,(enc x).length=sz)(h1:∀x,(enc x).all zAn=true){k:Nat}(hk:k<l.length){x:α}{cs:List Value}(JC:cs=enc x)
  (H:∀w2,At w F (zC (zM v E sz enc (l.set k x)) B) w2->KW.run w2):@stJ w1 ⟨v.blk,k*sz,none⟩ cs KW:=by
 refine h.own.store he h1 hk JC fun w2 JB JD JA=>H w2 (h.step Lcl.own hB ?_);rintro Fa ⟨ho,rfl⟩;exact⟨_,⟨JA,rfl⟩,by rw[ho.own_eq hk];exact JB,fun x hx=>.inl hx⟩
theorem At.store1{KW:zw World}(hB:Lcl B)(h:At w F (zC (zM v E 1 enc l) B) w1)(he:∀x,(enc x).length=1)(h1:∀x,(enc x).all zAn=true){k:Nat}(hk:k<l.length){x:α}{cs:List Value}(JA:cs=enc x)
  (H:∀w2,At w F (zC (zM v E 1 enc (l.set k x)) B) w2->KW.run w2):@stJ w1 ⟨v.blk,k,none⟩ cs KW:=by
 have:=h.store (KW:=KW) hB he h1 hk JA H;rwa[Nat.mul_one] at this
theorem At.append{P:Program}{KV:zw (Value×World)}{T ty by_:Nat}{z:List Value}(hB:Lcl B)(h:At w F (zC (zM v E sz enc l) B) w1)(he:∀x,(enc x).length=sz)(h1:∀x,(enc x).all zAn=true)
  (hT:zn P T=some (E,sz,by_,z)) {a:Addr} {m c:Nat} {xs:List α} (hm:xs.length=m) (hx:∀j u,(xs.flatMap enc)[j]? = some u->w1.cell? (a.add j)=some u)
  (hb:(l.length+m)*by_<=140737488355328) (JA:l.length+m<=maxLen)
  (H:∀v' w2,At w F (zC (zM v' E sz enc (l++xs)) B) w2->KV.run (v',w2)) :
  @efH P (Builtin.append_ #[T,T] ty [v,.slice (some a) m c].toArray) w1 KV:=by
 refine h.own.append he h1 hT hm hx hb JA fun v' w2 JD JC JB=>H v' w2 (h.step Lcl.own hB ?_);rintro Fa ⟨ho,rfl⟩;exact⟨_,⟨JC,rfl⟩,JD,JB⟩
theorem At.appendV{P:Program}{KV:zw (Value×World)}{T ty by_:Nat}{z:List Value}{u:Value}{xs:List α}(hB:Lcl B)(h:At w F (zC (zM v E sz enc l) B) w1)(hu:Vw w1 u enc xs)(he:∀x,(enc x).length=sz)(h1:∀x,(enc x).all zAn=true)
  (hT:zn P T=some (E,sz,by_,z)) (hb:(l.length+xs.length)*by_<=140737488355328) (JA:l.length+xs.length<=maxLen)
  (H:∀v' w2,At w F (zC (zM v' E sz enc (l++xs)) B) w2->KV.run (v',w2)) :
  @efH P (Builtin.append_ #[T,T] ty [v,u].toArray) w1 KV:=by
 refine h.own.appendV hu he h1 hT hb JA fun v' w2 JD JC JB=>H v' w2 (h.step Lcl.own hB ?_);rintro Fa ⟨ho,rfl⟩;exact⟨_,⟨JC,rfl⟩,JD,JB⟩
theorem At.nil(hB:Lcl B)(h:At w F B w1):At w F (zC (zM (.slice none 0 0) E sz enc []) B) w1 :=
 h.more hB (Kp.refl _ _) ⟨_,⟨Own.nil _ _ _ _,rfl⟩,by simp⟩
theorem At.made{n:Nat}{x:α}{z:List Value}(hB:Lcl B)(h:At w F B w1)(hz:z=enc x)(he:∀x,(enc x).length=sz)(hn:n<=maxLen) :
  At w F (zC (zM (.slice (some ⟨w1.heap.size,0,none⟩) n n) E sz enc (List.replicate n x)) B) (w1.alloc (.cells (zW z n).toArray E)) :=
 h.more hB ((Kp.refl _ _).alloc _) ⟨_,⟨Own.made hz he hn,rfl⟩,by simp⟩
theorem At.lit{xs:List α}{cs:Array Value}(hB:Lcl B)(h:At w F B w1)(JA:cs.toList=xs.flatMap enc)(he:∀x,(enc x).length=sz)(hn:xs.length<=maxLen){m:Nat}(hm:m=xs.length) :
  At w F (zC (zM (.slice (some ⟨w1.heap.size,0,none⟩) m m) E sz enc xs) B) (w1.alloc (.cells cs E)):=by
 subst hm;exact h.more hB ((Kp.refl _ _).alloc _) ⟨_,⟨.inr ⟨w1.heap.size,xs.length,cs,[],rfl,zO,by simpa using JA,by simp,Nat.le_refl _,hn⟩,rfl⟩,by simp⟩
end
def VwA{α:Type}(v:Value)(enc:α->List Value)(l:List α):Asr:=fun w F=>Vw w v enc l/\F=v.own/\∀x∈v.own,x<w.heap.size
theorem Lcl.vw{α:Type}{v:Value}{enc:α->List Value}{l:List α}:Lcl (VwA v enc l):=by
 refine⟨?_,?_⟩
 ·rintro w F ⟨h,rfl,JA⟩ x hx;exact JA x hx
 ·rintro w F G w' ⟨h,rfl,JA⟩ hk hd;exact⟨h.kp hk hd,rfl,fun x hx=>by have:=JA x hx;have:=hk.size;omega⟩
theorem At.vw{α:Type}{v:Value}{enc:α->List Value}{l:List α}{w w1:World}{F:List Nat}{B:Asr}(h:At w F (zC (VwA v enc l) B) w1):Vw w1 v enc l:=by
 obtain⟨F1,h1,_⟩:=h.get;exact h1
theorem At.own_vw{α:Type}{v:Value}{E sz:Nat}{enc:α->List Value}{l:List α}{w w1:World}{F:List Nat}{B:Asr}(h:At w F (zC (zM v E sz enc l) B) w1):At w F (zC (VwA v enc l) B) w1:=h.imp fun F1 ⟨Fa,Fb,⟨h1,e1⟩,h2,hd,e⟩=>by
 subst e e1;refine⟨_,⟨v.own,Fb,⟨h1.vw,rfl,fun x hx=>?_⟩,h2,hd,rfl⟩,fun x hx=>hx⟩;rcases h1 with⟨rfl,_⟩|⟨g,cap,cur,junk,rfl,hh,_⟩
 ·cases hx
 ·simp at hx;subst hx;exact zS hh
section
open Go.Maps
variable {κ α:Type} [DecidableEq κ] {ek:κ->Value} {ev:α->Value} {ok:κ->Prop} {P:Program} {k e t:TypeId} {l:List (κ×α)} {b:Nat} {B:Asr} {w w1:World} {F:List Nat}
def zIJ(b:Nat)(ek:κ->Value)(ev:α->Value)(ok:κ->Prop)(l:List (κ×α)):Asr:=fun w F=>zAw w b ek ev ok l/\F=[b]
theorem Lcl.map:Lcl (zIJ b ek ev ok l):=by
 refine⟨?_,?_⟩
 ·rintro w F ⟨h,rfl⟩ x hx;simp at hx;subst hx;exact h.lt
 ·rintro w F G w' ⟨h,rfl⟩ hk hd;exact⟨h.kp hk (hd b (by simp)),rfl⟩
theorem At.map(h:At w F (zC (zIJ b ek ev ok l) B) w1):zAw w1 b ek ev ok l:=by
 obtain⟨F1,h1,_⟩:=h.get;exact h1
theorem At.newmap(hB:Lcl B)(h:At w F B w1):At w F (zC (zIJ w1.heap.size ek ev ok ([]:List (κ×α))) B) (w1.alloc (.map #[] 0)) :=
 h.more hB ((Kp.refl _ _).alloc _) ⟨_,⟨zAw.new _,rfl⟩,by simp⟩
theorem At.put{KW:zw World}{x:κ}{v:α}(hB:Lcl B)(h:At w F (zC (zIJ b ek ev ok l) B) w1)(hk:zCs P k ek ok)(ht:P.underlying t=some (.map k e))(hx:ok x)(hl:l.length<maxLen)
  (H:∀w2,At w F (zC (zIJ b ek ev ok (zB5 l x v)) B) w2->KW.run w2):@zRT P (Instr.mapUpdate t (.map (some b)) (ek x) (ev v)) w1 KW:=by
 obtain⟨o,hr,hm⟩:=h.map.store hk ht hx v hl;refine zV6 hr (H _ (h.step Lcl.map hB ?_));rintro Fa ⟨h1,rfl⟩;exact⟨[b],⟨hm,rfl⟩,(Kp.refl _ _).setB (.inl (by simp)) _,fun x hx=>.inl hx⟩
theorem zAw.look2{K:zw Value}{x:κ}(h:zAw w b ek ev ok l)(hk:zCs P k ek ok)(ht:P.underlying t=some (.map k e)){z:Value}(hz:∀w,(zeroValue e).run P w=.ok z w)(hx:ok x)
  (H:K.run (.tuple #[((zBw l x).map ev).getD z,.bool (zBw l x).isSome])):@rdH P (Instr.lookup t (.map (some b)) (ek x) true) w K :=
 zPQ (fun w' hw=>by have:=zAw.look (h.ext hw) hk ht (hz w') hx true;simpa using this) H
theorem zAw.look1{K:zw Value}{x:κ}(h:zAw w b ek ev ok l)(hk:zCs P k ek ok)(ht:P.underlying t=some (.map k e)){z:Value}(hz:∀w,(zeroValue e).run P w=.ok z w)(hx:ok x)
  (H:K.run (((zBw l x).map ev).getD z)):@rdH P (Instr.lookup t (.map (some b)) (ek x) false) w K :=
 zPQ (fun w' hw=>by have:=zAw.look (h.ext hw) hk ht (hz w') hx false;simpa using this) H
end
end Go.W
end
namespace Go.W
section
open Go
section
variable (P:Program) (S:Nat->World->Prop)
def stA(c:Nat)(op:Op)(ty:TypeId)(ρ:Env)(k:Nat)(N:Value->Nat->Prop):Prop :=
 match c with
 |0=>opS P 0 op ty ρ default fun v _=>N v k
 |1=>∃v,(∀k' w',S k' w'->opS P 1 op ty ρ w' fun x _=>x=v)/\N v k
 |c+2=>∃v,(∀w',S k w'->opS P (c+2) op ty ρ w' fun x w''=>x=v/\S (k+1) w'')/\N v (k+1)
def wpA:Nat->List LO->Env->(Env->Nat->Prop)->Prop
 |k,[],ρ,K=>K ρ k
 |k,⟨c,d,op,ty,none⟩::l,ρ,K=>stA P S c op ty ρ k fun v k'=>wpA k' l (ρ.put d v) K
 |k,⟨c,d,op,ty,some (g,b)⟩::l,ρ,K=>gd (ρ g) b (stA P S c op ty ρ k fun v k'=>wpA k' l (ρ.put d v) K) (wpA k l (ρ.put d undef) K)
end
def LO.reads(o:LO):List Nat:=(o.op.operands.toList.filterMap fun|.tmp t=>some t|_=>none)++(match o.guard with|some (g,_)=>[g]|none=>[])
def zRi(los:List LO)(deps:List Nat):Bool :=
 decide ((los.filterMap (·.dst)).Nodup) &&
 los.all (fun o=>!zIs o.op) &&
 (List.range los.length).all fun i=>(List.range los.length).all fun j =>
  (!(deps.getD i 0).testBit j||decide (j<i)) &&
  (!(decide (2<=(los.getD i LO.dfl).cls)&&decide (2<=(los.getD j LO.dfl).cls)&&decide (j<i))||(deps.getD i 0).testBit j) &&
  (match (los.getD j LO.dfl).dst with
   |some t=>!((los.getD i LO.dfl).reads.contains t)||decide (i=j)||(deps.getD i 0).testBit j||(deps.getD j 0).testBit i
   |none=>true)
def zC7(los:List LO)(vs:Nat->Value)(ρ:Env):List Nat->Env
 |[]=>ρ
 |i::X=>(zC7 los vs ρ X).put (los.getD i LO.dfl).dst (vs i)
section
variable {P:Program} {S:Nat->World->Prop} {los:List LO} {deps:List Nat}
theorem zI8{vs:Nat->Value}{ρ:Env}(hn:∀i j t,i<los.length->j<los.length->(los.getD i LO.dfl).dst=some t->(los.getD j LO.dfl).dst=some t->i=j){t:Nat}:∀{X:List Nat},(∀i∈X,i<los.length) ->
  (∀j,j∈X->(los.getD j LO.dfl).dst=some t->zC7 los vs ρ X t=vs j)/\((∀j∈X,(los.getD j LO.dfl).dst≠some t)->zC7 los vs ρ X t=ρ t)
 |[],_=>⟨fun j hj=>(by cases hj),fun _=>rfl⟩
 |i::X,hX=>by
  obtain⟨h1,h2⟩:=zI8 (vs:=vs) (ρ:=ρ) hn (t:=t) (X:=X) (fun i hi=>hX i (by simp[hi]));refine⟨fun j hj hd=>?_,fun JA=>?_⟩
  ·by_cases hit:(los.getD i LO.dfl).dst=some t
   ·have:=hn i j t (hX i (by simp)) (hX j hj) hit hd;subst this;simp only[zC7,hit,Env.put,Env.set,if_true]
   ·have JC:j∈X:=by
     rcases List.mem_cons.1 hj with rfl|h
     ·exact absurd hd hit
     ·exact h
    rw[zC7];cases JB:(los.getD i LO.dfl).dst with
    |none=>exact h1 j JC hd
    |some d =>have:t≠d:=fun e=>hit (by rw[JB,e]);simp only[Env.put,Env.set,if_neg this];exact h1 j JC hd
  ·have hi:=JA i (by simp);rw[zC7];cases JB:(los.getD i LO.dfl).dst with
   |none=>exact h2 fun j hj=>JA j (by simp[hj])
   |some d =>have:t≠d:=fun e=>hi (by rw[JB,e]);simp only[Env.put,Env.set,if_neg this];exact h2 fun j hj=>JA j (by simp[hj])
def zWp(P:Program)(S:Nat->World->Prop)(o:LO)(ρ:Env)(k:Nat)(v:Value)(k':Nat):Prop :=
 match o with
 |⟨c,d,op,ty,g⟩ =>
  ((match g with|none=>True|some (g,b)=>ρ g=.bool b) /\
   (if 2<=c then k'=k+1/\∀w',S k w'->zAb P c op ty ρ w' (fun x w''=>x=v/\S (k+1) w'')
    else k'=k/\∀j w',S j w'->zAb P c op ty ρ w' (fun x w''=>x=v/\S j w''))) \/
  ((match g with|none=>False|some (g,b)=>ρ g≠.bool b)/\v=undef/\k'=k)
theorem zJc{c:Nat}{op:Op}{ty:TypeId}{ρ:Env}{k:Nat}{N:Value->Nat->Prop}(h:stA P S c op ty ρ k N) :
  ∃v k',(if 2<=c then k'=k+1/\∀w',S k w'->zAb P c op ty ρ w' (fun x w''=>x=v/\S (k+1) w'')
    else k'=k/\∀j w',S j w'->zAb P c op ty ρ w' (fun x w''=>x=v/\S j w''))/\N v k':=by
 match c,h with
 |0,h =>have h:opS P 0 op ty ρ default fun v _=>N v k:=h;have h:zR2 P op ty ρ default fun v _=>N v k:=zBM h;obtain⟨v,hv,hN⟩:=h;exact⟨v,k,⟨rfl,fun j w' hS=>⟨v,hv,rfl,hS⟩⟩,hN⟩
 |1,h =>obtain⟨v,hv,hN⟩:=h;refine⟨v,k,⟨rfl,fun j w' hS=>?_⟩,hN⟩;have h9:zR1 P op ty ρ w' fun x _=>x=v:=zBM (hv j w' hS);obtain⟨x,hx,rfl⟩:=h9;exact⟨x,hx,rfl,hS⟩
 |c+2,h =>obtain⟨v,hv,hN⟩:=h;exact⟨v,k+1,⟨rfl,fun w' hS=>zBM (hv w' hS)⟩,hN⟩
theorem zHI{K:Env->Nat->Prop}:∀(l:List LO) (ρ:Env) (k:Nat),wpA P S k l ρ K->∃(vs:Nat->Value) (ks:Nat->Nat),ks 0=k /\
  (∀i,i<l.length->zWp P S (l.getD i LO.dfl) (zC7 l vs ρ (List.range i).reverse) (ks i) (vs i) (ks (i+1)))/\K (zC7 l vs ρ (List.range l.length).reverse) (ks l.length)
 |[],ρ,k,h=>⟨fun _=>undef,fun _=>k,rfl,by simp,h⟩
 |o::l,ρ,k,h=>by
  have head:∃v k',zWp P S o ρ k v k'/\wpA P S k' l (ρ.put o.dst v) K:=by
   obtain⟨c,d,op,ty,g⟩:=o;cases g with
   |none =>obtain⟨v,k',h1,h2⟩:=zJc h;exact⟨v,k',.inl ⟨trivial,h1⟩,h2⟩
   |some gb =>
    obtain⟨g,b⟩:=gb;simp only[wpA,gd] at h;rcases Classical.em (ρ g=.bool b) with hb|hb
    ·obtain⟨v,k',h1,h2⟩:=zJc (h.1 hb);exact⟨v,k',.inl ⟨hb,h1⟩,h2⟩
    ·exact⟨undef,k,.inr ⟨hb,rfl,rfl⟩,h.2 hb⟩
  obtain⟨v,k',hf,hr⟩:=head;obtain⟨vs,ks,JB,JC,hK⟩:=zHI l _ k' hr
  let vs':Nat->Value:=fun|0=>v|i+1=>vs i
  let ks':Nat->Nat:=fun|0=>k|i+1=>ks i
  have JA:∀n,zC7 (o::l) vs' ρ (List.range (n+1)).reverse=zC7 l vs (ρ.put o.dst v) (List.range n).reverse:=by
   intro n
   induction n with
   |zero=>simp[zC7,List.range_succ,vs']
   |succ n ih =>
    have e:∀m:Nat,(List.range (m+1)).reverse=m::(List.range m).reverse:=fun m=>by rw[List.range_succ,List.reverse_append,List.reverse_singleton,List.singleton_append]
    rw[e (n+1)]
    conv=>rhs;rw[e n]
    show(zC7 (o::l) vs' ρ (List.range (n+1)).reverse).put _ _=(zC7 l vs (ρ.put o.dst v) (List.range n).reverse).put _ _;rw[ih];rfl
  refine⟨vs',ks',rfl,fun i hi=>?_,?_⟩
  ·cases i with
   |zero=>simpa[zC7,vs',ks',JB] using hf
   |succ i =>rw[JA];have:=JC i (by simpa using hi);simpa[vs',ks'] using this
  ·rw[List.length_cons,JA];exact hK
theorem zQE{op:Op}{ty:TypeId}{ρ ρ':Env}(hs:zIs op=false)(h:∀t,Operand.tmp t∈op.operands->ρ t=ρ' t):LO.exec op ty ρ=LO.exec op ty ρ':=by
 refine execOp_congr (ρ:=ρ.ev) (ρ':=ρ'.ev) _ (fun cs b he=>?_) (fun x hx=>?_)
 ·have he:op=.select cs b:=he;rw[he] at hs;cases hs
 ·cases x with
  |tmp t=>exact h t hx
  |const v=>rfl
  |global g=>rfl
  |func f=>rfl
theorem zHP{c:Nat}{op:Op}{ty:TypeId}{ρ ρ':Env}{w:World}{K:Value->World->Prop}(hs:zIs op=false)(h:∀t,Operand.tmp t∈op.operands->ρ t=ρ' t)(hh:zAb P c op ty ρ w K):zAb P c op ty ρ' w K:=by
 unfold zAb zR2 zR1 zUk zCd at *
 rw[<-zQE hs h];exact hh
theorem zQg{Q:Ex->Env->World->Prop}{ρ:Env}{w:World}{outs:List Nat}(S:Nat->World->Prop)(hc:zRi los deps=true)(h0:S 0 w.drew)
  (h:wpA P S 0 los ρ fun ρ' k=>∀w',S k w'->Q .nrm (ρ.merge ρ' outs) w'):wpL P (.anyR los deps outs) Q ρ w:=by
 simp only[zRi,Bool.and_eq_true,decide_eq_true_eq,List.all_eq_true,List.mem_range,Bool.or_eq_true,Bool.not_eq_true'] at hc;obtain⟨⟨JD,JN⟩,hall⟩:=hc;have hd:∀i j,i<los.length->j<los.length->(deps.getD i 0).testBit j=true->j<i:=fun i j hi hj hb=>by
  have:=(hall i hi j hj).1.1;rcases this with h1|h1
  ·rw[h1] at hb;cases hb
  ·exact h1
 have JX:∀i j,i<los.length->j<los.length->2<=(los.getD i LO.dfl).cls->2<=(los.getD j LO.dfl).cls->j<i->(deps.getD i 0).testBit j=true:=fun i j hi hj h1 h2 h3=>by
  have:=(hall i hi j hj).1.2;rcases this with h4|h4
  ·rw[decide_eq_true h1,decide_eq_true h2,decide_eq_true h3] at h4;cases h4
  ·exact h4
 have JZ:∀i j t,i<los.length->j<los.length->(los.getD j LO.dfl).dst=some t->t∈(los.getD i LO.dfl).reads->i=j\/(deps.getD i 0).testBit j=true\/(deps.getD j 0).testBit i=true:=fun i j t hi hj h1 h2=>by
  have:=(hall i hi j hj).2;rw[h1] at this;simp only[Bool.or_eq_true,Bool.not_eq_true',decide_eq_true_eq] at this;rcases this with ((h3|h3)|h3)|h3
  ·rw[List.contains_iff_mem.2 h2] at h3;cases h3
  ·exact .inl h3
  ·exact .inr (.inl h3)
  ·exact .inr (.inr h3)
 have hn:∀i j t,i<los.length->j<los.length->(los.getD i LO.dfl).dst=some t->(los.getD j LO.dfl).dst=some t->i=j:=by
  intro i j t hi hj h1 h2;have key:∀(l:List LO),((l.filterMap (·.dst)).Nodup)->∀i j,i<l.length->j<l.length->i<j->(l.getD i LO.dfl).dst=some t->(l.getD j LO.dfl).dst=some t->False:=by
   intro l
   induction l with
   |nil=>intro _ i j hi;simp at hi
   |cons o l ih =>
    intro JD i j hi hj Je h1 h2;cases i with
    |zero =>
     cases j with
     |zero=>omega
     |succ j =>simp at h1 h2 hj;rw[List.filterMap_cons_some h1,List.nodup_cons] at JD;apply JD.1;rw[List.mem_filterMap];refine⟨l[j],List.getElem_mem hj,?_⟩;rw[List.getElem?_eq_getElem hj] at h2;simpa using h2
    |succ i =>
     cases j with
     |zero=>omega
     |succ j =>
      refine ih ?_ i j (by simpa using hi) (by simpa using hj) (by omega) (by simpa using h1) (by simpa using h2);cases ho:o.dst with
      |none=>rwa[List.filterMap_cons_none ho] at JD
      |some d =>rw[List.filterMap_cons_some ho,List.nodup_cons] at JD;exact JD.2
  rcases Nat.lt_trichotomy i j with h3|h3|h3
  ·exact(key los JD i j hi hj h3 h1 h2).elim
  ·exact h3
  ·exact(key los JD j i hj hi h3 h2 h1).elim
 obtain⟨vs,ks,JU,hf,hK⟩:=zHI los ρ 0 h
 -- the counter
 have JP:∀i,i<los.length->ks (i+1)=ks i\/(ks (i+1)=ks i+1/\2<=(los.getD i LO.dfl).cls):=by
  intro i hi;have:=hf i hi;generalize los.getD i LO.dfl=o at *
  obtain⟨c,d,op,ty,g⟩:=o;rcases this with⟨_,h1⟩|⟨_,_,h1⟩
  ·split at h1
   ·rename_i hc;exact .inr ⟨h1.1,hc⟩
   ·exact .inl h1.1
  ·exact .inl h1
 intro l hl hD;have JI:∀i∈l,i<los.length:=fun i hi=>List.mem_range.1 (hl.subset hi);have JA:l.Nodup:=hl.symm.nodup List.nodup_range
 -- Jd many effects were there
 let tk:Nat->Nat:=fun i=>ks (i+1)-ks i
 have agree:∀(X Y:List Nat) (t:Nat),(∀i∈X,i<los.length)->(∀i∈Y,i<los.length)->(∀j,j<los.length->(los.getD j LO.dfl).dst=some t->(j∈X<->j∈Y))->zC7 los vs ρ X t=zC7 los vs ρ Y t:=by
  intro X Y t hX hY JY;obtain⟨a1,a2⟩:=zI8 (vs:=vs) (ρ:=ρ) hn (t:=t) hX;obtain⟨b1,b2⟩:=zI8 (vs:=vs) (ρ:=ρ) hn (t:=t) hY;rcases Classical.em (∃j∈X,(los.getD j LO.dfl).dst=some t) with⟨j,hj,hd⟩|JS
  ·rw[a1 j hj hd,b1 j ((JY j (hX j hj) hd).1 hj) hd]
  ·rw[a2 fun j hj he=>JS ⟨j,hj,he⟩,b2 fun j hj he=>JS ⟨j,(JY j (hY j hj) he).2 hj,he⟩]
 have key:∀(l2 l1:List Nat) (w':World),l=l1++l2->S ((l1.map tk).sum) w' ->
   wpX P (zCI los l2) (zC7 los vs ρ l1.reverse) w' fun ρ' w''=>Q .nrm (ρ.merge ρ' outs) w'':=by
  intro l2
  induction l2 with
  |nil =>
   intro l1 w' he hS;rw[List.append_nil] at he;subst he;have e1:zC7 los vs ρ l.reverse=zC7 los vs ρ (List.range los.length).reverse:=by funext t;refine agree _ _ t (fun i hi=>JI i (List.mem_reverse.1 hi)) (fun i hi=>List.mem_range.1 (List.mem_reverse.1 hi)) fun j hj _=>?_;rw[List.mem_reverse,List.mem_reverse];exact hl.mem_iff
   have e2:(l.map tk).sum=ks los.length:=by
    rw[(hl.map tk).sum_nat];have:∀m,m<=los.length->(((List.range m).map tk).sum=ks m):=by
     intro m
     induction m with
     |zero=>intro _;simp[JU]
     |succ m ih =>intro hm;rw[List.range_succ,List.map_append,List.sum_append,ih (by omega)];have:=JP m (by omega);simp only[List.map_cons,List.map_nil,List.sum_cons,List.sum_nil,tk];omega
    exact this _ (Nat.le_refl _)
   show Q .nrm (ρ.merge (zC7 los vs ρ l.reverse) outs) w';rw[e1];rw[e2] at hS;exact hK w' hS
  |cons i l2 ih =>
   intro l1 w' he hS;have hi:i<los.length:=JI i (by rw[he];simp);have JV:i∉l1:=fun hm=>by rw[he,List.nodup_append] at JA;exact JA.2.2 i hm i (by simp) rfl
   have before:∀j,j<los.length->(deps.getD i 0).testBit j=true->j∈l1:=fun j hj hb=>by obtain⟨r1,r2,e1,e2⟩:=hD i hi j hj hb;rw[he] at e1 JA;rw[(zAD JA e1).1];exact e2
   have after:∀j,j<los.length->(deps.getD j 0).testBit i=true->j∉l1:=fun j hj hb hm=>by
    obtain⟨r1,r2,e1,e2⟩:=hD j hj i hi hb;obtain⟨m1,m2,e3⟩:=List.append_of_mem hm;have e4:l=m1++j::(m2++i::l2):=by rw[he,e3];simp
    rw[e4] at e1 JA;have:=(zAD JA e1).1;rw[<-this] at e2;rw[List.nodup_append] at JA;exact JA.2.2 i e2 i (by simp) rfl
   have JH:∀t∈(los.getD i LO.dfl).reads,zC7 los vs ρ (List.range i).reverse t=zC7 los vs ρ l1.reverse t:=by
    intro t ht;refine agree _ _ t (fun j hj=>by have:=List.mem_range.1 (List.mem_reverse.1 hj);omega) (fun j hj=>JI j (by rw[he];simp[List.mem_reverse.1 hj])) fun j hj Jc=>?_;rw[List.mem_reverse,List.mem_reverse,List.mem_range];rcases JZ i j t hi hj Jc ht with rfl|h1|h1
    ·exact⟨fun h=>by omega,fun h=>absurd h JV⟩
    ·exact⟨fun _=>before j hj h1,fun _=>hd i j hi hj h1⟩
    ·exact⟨fun h=>by have:=hd j i hj hi h1;omega,fun h=>absurd h (after j hj h1)⟩
   have JB:∀w'',S (((l1++[i]).map tk).sum) w''->wpX P (zCI los l2) ((zC7 los vs ρ l1.reverse).put (los.getD i LO.dfl).dst (vs i)) w'' fun ρ' w''=>Q .nrm (ρ.merge ρ' outs) w'':=by intro w'' JK;have:=ih (l1++[i]) w'' (by rw[he];simp) JK;rw[List.reverse_append,List.reverse_singleton,List.singleton_append] at this;exact this
   have JM:((l1++[i]).map tk).sum=(l1.map tk).sum+tk i:=by simp
   rw[JM] at JB
   -- the effects that were there,where it is an effect itself
   have JG:2<=(los.getD i LO.dfl).cls->(l1.map tk).sum=ks i:=by
    intro h2;have hz:∀j,j<los.length->¬2<=(los.getD j LO.dfl).cls->tk j=0:=fun j hj Jb=>by
     rcases JP j hj with h1|⟨_,h1⟩
     ·simp[tk,h1]
     ·exact absurd h1 Jb
    have JF:∀j,j<los.length->2<=(los.getD j LO.dfl).cls->(j∈l1<->j<i):=fun j hj JE=>by
     constructor
     ·intro hm;rcases Nat.lt_trichotomy j i with h3|h3|h3
      ·exact h3
      ·exact absurd (h3 ▸ hm) JV
      ·exact absurd hm (after j hj (JX j i hj hi JE h2 h3))
     ·intro h3;exact before j hj (JX i j hi hj h2 JE h3)
    have filt:∀(L:List Nat),(∀j∈L,j<los.length)->(L.map tk).sum=((L.filter fun j=>decide (2<=(los.getD j LO.dfl).cls)).map tk).sum:=by
     intro L
     induction L with
     |nil=>intro _;rfl
     |cons j L ihL =>
      intro hL;rw[List.map_cons,List.sum_cons,ihL fun k hk=>hL k (by simp[hk])];by_cases JE:2<=(los.getD j LO.dfl).cls
      ·rw[List.filter_cons_of_pos (by simpa using JE),List.map_cons,List.sum_cons]
      ·rw[List.filter_cons_of_neg (by simpa using JE),hz j (hL j (by simp)) JE,Nat.zero_add]
    have JT:∀j∈l1,j<los.length:=fun j hj=>JI j (by rw[he];simp[hj]);have JO:l1.Nodup:=by rw[he,List.nodup_append] at JA;exact JA.1
    rw[filt l1 JT];have hp:(l1.filter fun j=>decide (2<=(los.getD j LO.dfl).cls)).Perm ((List.range i).filter fun j=>decide (2<=(los.getD j LO.dfl).cls)):=by
     refine(List.perm_ext_iff_of_nodup (JO.filter _) (List.nodup_range.filter _)).2 fun j=>?_;rw[List.mem_filter,List.mem_filter,List.mem_range];constructor
     ·rintro⟨h3,h4⟩;exact⟨(JF j (JT j h3) (by simpa using h4)).1 h3,h4⟩
     ·rintro⟨h3,h4⟩;exact⟨(JF j (by omega) (by simpa using h4)).2 h3,h4⟩
    rw[(hp.map tk).sum_nat,<-filt (List.range i) fun j hj=>by have:=List.mem_range.1 hj;omega];have:∀m,m<=i->(((List.range m).map tk).sum=ks m):=by
     intro m
     induction m with
     |zero=>intro _;simp[JU]
     |succ m ihm =>intro hm;rw[List.range_succ,List.map_append,List.sum_append,ihm (by omega)];have:=JP m (by omega);simp only[List.map_cons,List.map_nil,List.sum_cons,List.sum_nil,tk];omega
    exact this i (Nat.le_refl _)
   have JW:=hf i hi;have JC:=JN (los.getD i LO.dfl) (by simp[List.getD,List.getElem?_eq_getElem hi]);simp only[zCI,List.map_cons];have JL:tk i=ks (i+1)-ks i:=rfl;generalize los.getD i LO.dfl=o at *
   obtain⟨c,d,op,ty,g⟩:=o;have JR:∀t,Operand.tmp t∈op.operands->zC7 los vs ρ (List.range i).reverse t=zC7 los vs ρ l1.reverse t:=fun t ht=>JH t (by simp only[LO.reads,List.mem_append,List.mem_filterMap];exact .inl ⟨.tmp t,by simpa using ht,rfl⟩);have run:(if 2<=c then ks (i+1)=ks i+1/\∀w',S (ks i) w'->zAb P c op ty (zC7 los vs ρ (List.range i).reverse) w' (fun x w''=>x=vs i/\S (ks i+1) w'')
     else ks (i+1)=ks i/\∀j w',S j w'->zAb P c op ty (zC7 los vs ρ (List.range i).reverse) w' (fun x w''=>x=vs i/\S j w'')) ->
     zAb P c op ty (zC7 los vs ρ l1.reverse) w' fun v w''=>wpX P (zCI los l2) ((zC7 los vs ρ l1.reverse).put d v) w'' fun ρ' w''=>Q .nrm (ρ.merge ρ' outs) w'':=by
    intro hh;split at hh
    ·rename_i h2;obtain⟨e1,hh⟩:=hh;have JK:=hS;rw[JG h2] at JK;refine zAJ ?_ (zHP JC JR (hh w' JK));rintro x w'' ⟨rfl,JQ⟩;refine JB w'' ?_;rw[JG h2,JL,e1,Nat.add_sub_cancel_left];exact JQ
    ·obtain⟨e1,hh⟩:=hh;refine zAJ ?_ (zHP JC JR (hh _ w' hS));rintro x w'' ⟨rfl,JQ⟩;refine JB w'' ?_;rw[JL,e1,Nat.sub_self];exact JQ
   cases g with
   |none =>
    simp only[wpX];rcases JW with⟨_,hh⟩|⟨hh,_⟩
    ·exact run hh
    ·exact hh.elim
   |some gb =>
    obtain⟨g,b⟩:=gb;have hg:=JH g (by simp[LO.reads]);simp only[wpX,gd];rcases JW with⟨hb,hh⟩|⟨hb,hv,hk⟩
    ·refine⟨fun _=>run hh,fun Ja=>absurd (by rw[<-hg];exact hb) Ja⟩
    ·refine⟨fun he=>absurd (by rw[hg];exact he) hb,fun _=>?_⟩;have:=JB w' (by rw[JL,hk,Nat.sub_self];exact hS);rw[hv] at this;exact this
 have:=key l [] w.drew rfl h0;simpa[zC7,zCk] using this
end
section
variable {P:Program} {S:Nat->World->Prop} {ρ:Env} {K:Env->Nat->Prop} {k:Nat} {ty:Nat}
class zQi (α:Type) where
 run:α->Prop
def rdA(P:Program)(S:Nat->World->Prop)(op:Op)(ty:Nat)(ρ:Env)[K:zQi Value]:Prop:=∃v,(∀k' w',S k' w'->opS P 1 op ty ρ w' fun x _=>x=v)/\K.run v
def efA(P:Program)(S:Nat->World->Prop)(c:Nat)(op:Op)(ty:Nat)(ρ:Env)(k:Nat)[K:zQi Value]:Prop:=∃v,(∀w',S k w'->opS P (c+2) op ty ρ w' fun x w''=>x=v/\S (k+1) w'')/\K.run v
@[simp ↓] theorem wpA_nil:wpA P S k [] ρ K=K ρ k:=propext Iff.rfl
@[simp ↓] theorem wpA_0{d:Option Nat}{op:Op}{l:List LO}:wpA P S k (⟨0,d,op,ty,none⟩::l) ρ K=opS P 0 op ty ρ default fun v _=>wpA P S k l (ρ.put d v) K:=propext Iff.rfl
@[simp ↓] theorem wpA_1{d:Option Nat}{op:Op}{l:List LO}:wpA P S k (⟨1,d,op,ty,none⟩::l) ρ K=@rdA P S op ty ρ ⟨fun v=>wpA P S k l (ρ.put d v) K⟩:=propext Iff.rfl
@[simp ↓] theorem wpA_2{d:Option Nat}{op:Op}{l:List LO}:wpA P S k (⟨2,d,op,ty,none⟩::l) ρ K=@efA P S 0 op ty ρ k ⟨fun v=>wpA P S (k+1) l (ρ.put d v) K⟩:=propext Iff.rfl
theorem zF0{op:Op}{KA:zQi Value}(v:Value)(h:∀k' w',S k' w'->opS P 1 op ty ρ w' fun x _=>x=v)(hk:KA.run v):@rdA P S op ty ρ KA:=⟨v,h,hk⟩
theorem zGE{c:Nat}{op:Op}{KA:zQi Value}(v:Value)(h:∀w',S k w'->opS P (c+2) op ty ρ w' fun x w''=>x=v/\S (k+1) w'')(hk:KA.run v):@efA P S c op ty ρ k KA:=⟨v,h,hk⟩
end
end
end Go.W
