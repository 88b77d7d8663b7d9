/- A part of what the last text of this claim leans on. -/
import Derived.Calls
import Derived.Orders
import Derived.OrdersHeld
import Derived.KernelRfl
import Derived.Scope
import Derived.Laws.Sem
import Derived.Test.YtbiilejgfihohaaGreatProg
import Derived.Below
import Derived.OwnWalk
import Derived.Laws.AppendOwn
import Derived.Laws.MakeOwn
import Derived.Laws.CopyRow
import Derived.Laws.Rows
import Derived.DataElems
set_option linter.all false
set_option maxHeartbeats 4000000
set_option maxRecDepth 100000
set_option autoImplicit false
namespace Go.Cu
open Go
inductive At where
 | int (k:IntKind) | bool | str | sl | ptr | addr | map | any
 deriving DecidableEq,Inhabited
structure Sl where
 base:Option Addr
 len:Nat
 cap:Nat
@[reducible] def At.T:At→Type
 | .int _=>Int | .bool=>Bool | .str=>ByteArray | .sl=>Sl | .ptr=>Option Addr | .addr=>Addr | .map=>Option Nat | .any=>Value
def At.enc:(a:At)→a.T→Value
 | .int k,n=>.int k n
 | .bool,b=>.bool b
 | .str,s=>.string s
 | .sl,s=>.slice s.base s.len s.cap
 | .ptr,a=>.pointer a
 | .addr,a=>.pointer (some a)
 | .map,r=>.map r
 | .any,v=>v
def kEq:IntKind→IntKind→Bool
 | .i8,.i8 | .i16,.i16 | .i32,.i32 | .i64,.i64 | .u8,.u8 | .u16,.u16 | .u32,.u32 | .u64,.u64=>true
 | _,_=>false
theorem kEq_eq{a b:IntKind}(h:kEq a b=true):a=b:=by cases a <;> cases b <;> first | rfl | cases h
def At.dec:(a:At)→Value→Option a.T
 | .int k,.int k' n=>match kEq k k' with | true=>some n | false=>none
 | .bool,.bool b=>some b
 | .str,.string s=>some s
 | .sl,.slice b n c=>some ⟨b,n,c⟩
 | .ptr,.pointer a=>some a
 | .addr,.pointer (some a)=>some a
 | .map,.map r=>some r
 | .any,v=>some v
 | _,_=>none
theorem At.enc_dec{a:At}{v:Value}{x:a.T}(h:a.dec v=some x):a.enc x=v:=by
 cases a with
 | int k=>
  cases v <;> simp only[At.dec]at h <;> try cases h
  rename_i k' n
  cases e:kEq k k' <;> rw[e]at h <;> simp only at h <;> cases h
  rw[kEq_eq e];rfl
 | addr=>
  cases v <;> simp only[At.dec]at h <;> try cases h
  rename_i p
  cases p <;> simp only[At.dec]at h <;> cases h
  rfl
 | any=>simp only[At.dec]at h;cases h;rfl
 | _=>cases v <;> simp only[At.dec]at h <;> cases h <;> rfl
@[reducible] def Ats:List At→Type
 | []=>Unit
 | a::r=>a.T×Ats r
def afZ:(l:List At)→Ats l→List Value
 | [],_=>[]
 | a::r,x=>a.enc x.1::afZ r x.2
def decAts:(l:List At)→List Value→Option (Ats l)
 | [],[]=>some ()
 | a::r,v::vs=>match a.dec v with
  | some x=>match decAts r vs with
   | some y=>some (x,y)
   | none=>none
  | none=>none
 | _,_=>none
theorem enc_decAts:∀{l:List At} {vs:List Value} {x:Ats l},decAts l vs=some x→afZ l x=vs
 | [],[],_,_=>rfl
 | [],_::_,_,h=>by cases h
 | _::_,[],_,h=>by cases h
 | a::r,v::vs,x,h=>by
  simp only[decAts]at h
  cases ha:a.dec v with
  | none=>rw[ha]at h;cases h
  | some y=>
   rw[ha]at h
   cases hr:decAts r vs with
   | none=>rw[hr]at h;cases h
   | some z=>rw[hr]at h;cases h;simp only[afZ];rw[At.enc_dec ha,enc_decAts hr]
inductive Cx where
 | at(a:At) | agg (l:List At)
 deriving Inhabited
@[reducible] def Cx.T:Cx→Type
 | .at a=>a.T
 | .agg l=>Ats l
def Cx.enc:(c:Cx)→c.T→Value
 | .at a,x=>a.enc x
 | .agg l,x=>.agg (afZ l x).toArray
def Cx.dec:(c:Cx)→Value→Option c.T
 | .at a,v=>a.dec v
 | .agg l,.agg cs=>decAts l cs.toList
 | .agg _,_=>none
theorem Cx.enc_dec{c:Cx}{v:Value}{x:c.T}(h:c.dec v=some x):c.enc x=v:=by
 cases c with
 | «at» a=>exact At.enc_dec h
 | agg l=>
  cases v <;> simp only[Cx.dec]at h <;> try cases h
  simp only[Cx.enc];rw[enc_decAts h]
@[reducible] def Cxs:List Cx→Type
 | []=>Unit
 | a::r=>a.T×Cxs r
def encCxs:(l:List Cx)→Cxs l→List Value
 | [],_=>[]
 | a::r,x=>a.enc x.1::encCxs r x.2
inductive Sh where
 | one (c:Cx) | tup (l:List Cx) | nxt (a b:At)
 deriving Inhabited
@[reducible] def Sh.T:Sh→Type
 | .one c=>c.T
 | .tup l=>Cxs l
 | .nxt a b=>Option (a.T×b.T)
def Sh.enc:(s:Sh)→s.T→Value
 | .one c,x=>c.enc x
 | .tup l,x=>.tuple (encCxs l x).toArray
 | .nxt a b,x=>.tuple ⟨.bool x.isSome::(match x with | some (k,v)=>[a.enc k,b.enc v] | none=>[])⟩
abbrev Env:=List (Nat×Value)
def find:Env→Nat→Option Value
 | [],_=>none
 | (j,v)::r,i=>match Nat.beq j i with
  | true=>some v
  | false=>find r i
def ev(L:Env):Operand→Option Value
 | .tmp t=>find L t
 | .const v=>some v
 | .global g=>some (.pointer (some ⟨g,0,none⟩))
 | .func f=>some (.func (.func f) #[] #[])
def evD(L:Env)(x:Operand):Value:=match ev L x with
 | some v=>v
 | none=>undef
structure Slots(n:Nat)(a:Act)(L:Env):Prop where
 size:a.tmps.size=n
 defers:a.defers=[]
 vals:∀i v,find L i=some v→i<n∧a.tmps[i]? =some v
theorem Slots.ev{n:Nat}{a:Act}{L:Env}(h:Slots n a L){x:Operand}{v:Value}(hx:ev L x=some v):a.eval x=v:=by
 cases x with
 | tmp t=>
  have:=(h.vals t v hx).2
  simp only[Act.eval,Array.getD_eq_getD_getElem?,this,Option.getD_some]
 | const u=>exact Option.some.inj hx
 | global g=>exact Option.some.inj hx
 | func f=>exact Option.some.inj hx
def push(n:Nat)(d:Option Tmp)(v:Value)(L:Env):Env:=match d with
 | some t=>(t,v)::L
 | none=>L
theorem Slots.put{n:Nat}{a:Act}{L:Env}(h:Slots n a L)(d:Option Tmp)(v:Value)(hd:∀t,d=some t→t<n):Slots n (a.put d v) (push n d v L):=by
 cases d with
 | none=>exact h
 | some t=>
  have ht:=hd t rfl
  refine⟨by simp[Act.put,h.size],by simp[Act.put,h.defers],fun i u hu=>?_⟩
  simp only[push,find]at hu
  cases hb:Nat.beq t i with
  | true=>
   rw[hb]at hu;simp only at hu
   have e:t=i:=Nat.eq_of_beq_eq_true hb
   subst e
   cases hu
   exact⟨ht,by simp[Act.put,h.size,ht]⟩
  | false=>
   rw[hb]at hu;simp only at hu
   have e:t≠i:=Nat.ne_of_beq_eq_false hb
   obtain⟨h1,h2⟩:=h.vals i u hu
   exact⟨h1,by simp[Act.put,Array.getElem?_setIfInBounds_ne e,h2]⟩
theorem Slots.refine{n:Nat}{a:Act}{L:Env}(h:Slots n a L){t:Nat}{c b:Bool}(hf:find L t=some (.bool c))(hb:c=b):Slots n a ((t,.bool b)::L):=by
 subst hb
 refine⟨h.size,h.defers,fun i u hu=>?_⟩
 simp only[find]at hu
 cases e:Nat.beq t i with
 | true=>
  rw[e]at hu;simp only at hu;cases hu
  have e':t=i:=Nat.eq_of_beq_eq_true e
  subst e'
  exact h.vals _ _ hf
 | false=>rw[e]at hu;simp only at hu;exact h.vals i u hu
@[reducible] def St:List (Nat×Cx)→Type
 | []=>Unit
 | (_,c)::r=>c.T×St r
def encS:(l:List (Nat×Cx))→St l→Env
 | [],_=>[]
 | (i,c)::r,x=>(i,c.enc x.1)::encS r x.2
def projS:(l:List (Nat×Cx))→Env→Option (St l)
 | [],_=>some ()
 | (i,c)::r,L=>match find L i with
  | some v=>match c.dec v with
   | some x=>match projS r L with
    | some y=>some (x,y)
    | none=>none
   | none=>none
  | none=>none
theorem find_encS:∀{l:List (Nat×Cx)} {L:Env} {s:St l},projS l L=some s→∀i v,find (encS l s) i=some v→find L i=some v
 | [],_,_,_,_,_,h=>by cases h
 | (j,c)::r,L,s,hp,i,v,h=>by
  simp only[projS]at hp
  cases hf:find L j with
  | none=>rw[hf]at hp;cases hp
  | some u=>
   rw[hf]at hp
   cases hd:c.dec u with
   | none=>simp only[hd]at hp;cases hp
   | some x=>
    simp only[hd]at hp
    cases hr:projS r L with
    | none=>simp only[hr]at hp;cases hp
    | some y=>
     simp only[hr]at hp;cases hp
     simp only[encS,find]at h
     cases hb:Nat.beq j i with
     | true=>
      rw[hb]at h;simp only at h;cases h
      have e:j=i:=Nat.eq_of_beq_eq_true hb
      subst e
      rw[Cx.enc_dec hd];exact hf
     | false=>rw[hb]at h;simp only at h;exact find_encS hr i v h
theorem Slots.proj{n:Nat}{a:Act}{L:Env}{l:List (Nat×Cx)}{s:St l}(h:Slots n a L)(hp:projS l L=some s):Slots n a (encS l s):=
 ⟨h.size,h.defers,fun i v hv=>h.vals i v (find_encS hp i v hv)⟩
end Go.Cu
namespace Go.Cu
open Go
def now{α:Type}(P:Program):Sem α→Option α
 | .pure a=>some a
 | .program k=>now P (k P)
 | .mark _ k=>now P k
 | _=>none
theorem now_run{α:Type}{P:Program}:∀{s:Sem α} {x:α},now P s=some x→∀w,s.run P w=.ok x w
 | .pure a,x,h,w=>by simp only[now]at h;cases h;rfl
 | .program k,x,h,w=>by simp only[now]at h;simp only[Sem.run];exact now_run h w
 | .mark m k,x,h,w=>by simp only[now]at h;simp only[Sem.run];exact now_run h w
 | .load ..,_,h,_ | .store ..,_,h,_ | .new ..,_,h,_ | .shape ..,_,h,_ | .freeze ..,_,h,_ | .frozen ..,_,h,_
 | .getObj ..,_,h,_ | .setObj ..,_,h,_ | .choose ..,_,h,_ | .sys ..,_,h,_ | .halt ..,_,h,_=>by simp only[now]at h;cases h
def amZ:Option Addr→Sem Value
 | none=>runtimePanic .nilDeref
 | some a=>.pure (.pointer (some a))
def semB(b:Builtin)(ts:Array TypeId)(t:TypeId)(args:Array Value):Option (Sem Value):=
 match b with
 | .append=>some (Builtin.append_ ts t args)
 | .cap=>some (Builtin.cap_ ts t args)
 | .clear=>some (Builtin.clear_ ts t args)
 | .copy=>some (Builtin.copy_ ts t args)
 | .delete=>some (Builtin.delete_ ts t args)
 | .len=>some (Builtin.len_ ts t args)
 | .max=>some (Builtin.max_ ts t args)
 | .min=>some (Builtin.min_ ts t args)
 | _=>none
def semV(ρ:Operand→Value)(o:Oper):Option (Sem Value):=
 match o.op with
 | .alloc elem=>some (Instr.alloc elem true (.tuple #[]))
 | .box elem x=>some (Instr.box elem (ρ x))
 | .build t parts=>some (Instr.build t (parts.map fun(i,x)=>(i,ρ x)))
 | .buildSlice t len parts=>some (Instr.buildSlice t len (parts.map fun(i,x)=>(i,ρ x)))
 | .load t a=>some (Instr.loadAt t (ρ a))
 | .nilCheck x=>match ρ x with
  | .pointer p=>some (amZ p)
  | _=>none
 | .binOp op xType x y _=>some (do eqGuard op xType x y (ρ x) (ρ y);binOp op xType (ρ x) (ρ y))
 | .unOp op _ x=>some (Op.unary op (ρ x))
 | .convert src dst x=>some (convert src dst (ρ x))
 | .makeInterface xType x=>some (Instr.makeInterface xType (ρ x))
 | .makeFunc fn first captured=>some (Instr.makeFunc fn (first.map ρ) (captured.map ρ))
 | .makeMap t r=>some (Instr.makeMap t (r.map ρ))
 | .makeSlice t l c=>some (Instr.makeSlice t (ρ l) (ρ c))
 | .slice t x lo hi mx=>some (Instr.sliceAt t (ρ x) (lo.map ρ) (hi.map ρ) (mx.map ρ))
 | .fieldAddr s x f=>some (Instr.fieldAt s (ρ x) f)
 | .field xType x f=>some (Instr.field xType (ρ x) f)
 | .indexAddr t x ix=>some (Instr.indexAt t (ρ x) (ρ ix))
 | .index xType x ix=>some (Instr.index xType (ρ x) (ρ ix))
 | .lookup xType x ix ok=>some (Instr.lookup xType (ρ x) (ρ ix) ok)
 | .mapEntry t m k=>some (Instr.mapEntry t (ρ m) (ρ k))
 | .range xType x=>some (Instr.range xType (ρ x))
 | .next it isString=>some (Instr.next (ρ it) isString o.type)
 | .entry it=>some (Instr.entry (ρ it))
 | .typeAssert x xType asserted ok=>some (Instr.typeAssert (ρ x) xType asserted ok)
 | .call { callee:=.builtin b,args,argTypes }=>semB b argTypes o.type (args.map ρ)
 | _=>none
def semU(ρ:Operand→Value)(o:Oper):Option (Sem Unit):=
 match o.op with
 | .store t a x=>some (Instr.storeAt t (ρ a) (ρ x))
 | .mapUpdate t m k x | .insert t m k x=>some (Instr.mapUpdate t (ρ m) (ρ k) (ρ x))
 | .entryStore t m s x=>some (Instr.entryStore t (ρ m) (ρ s) (ρ x))
 | _=>none
theorem semV_exec{ρ:Operand→Value}{o:Oper}{s:Sem Value}(h:semV ρ o=some s):execOp ρ o=(do pure (.value (←s))):=by
 obtain⟨dst,op,type,pos,after,guard⟩:=o
 cases op <;> simp only[semV]at h <;> first | (cases h;done) | (cases h;rfl) | skip
 case nilCheck x=>
  cases hx:ρ x <;> rw[hx]at h <;> simp only at h <;> cases h
  rename_i p
  cases p <;> simp only[execOp,hx] <;> rfl
 case call c=>
  obtain⟨callee,args,argTypes⟩:=c
  cases callee <;> simp only at h <;> try cases h
  rename_i b
  cases b <;> simp only[semB]at h <;> first | (cases h;done) | (cases h;rfl)
theorem semU_exec{ρ:Operand→Value}{o:Oper}{s:Sem Unit}(h:semU ρ o=some s):execOp ρ o=(do s;pure .skip):=by
 obtain⟨dst,op,type,pos,after,guard⟩:=o
 cases op <;> simp only[semU]at h <;> first | (cases h;done) | (cases h;rfl)
theorem run_bind{α β:Type}{P:Program}(s:Sem α)(f:α→Sem β)(w:World):(s >>=f).run P w=match s.run P w with
  | .ok a w'=>(f a).run P w'
  | .halt h w'=>.halt h w':=by
 show(s.bind f).run P w=_
 induction s generalizing w with
 | pure a=>rfl
 | load m a k ih=>simp only[Sem.bind,Sem.run];(repeat' split) <;> simp_all
 | store m a v k ih=>cases v <;> simp only[Sem.bind,Sem.run] <;> (try rfl) <;> (repeat' split) <;> simp_all
 | new o k ih=>simp only[Sem.bind,Sem.run];exact ih _ _
 | shape r k ih=>simp only[Sem.bind,Sem.run];exact ih _ _
 | freeze a n k ih=>simp only[Sem.bind,Sem.run];exact ih _
 | frozen a k ih=>simp only[Sem.bind,Sem.run];exact ih _ _
 | getObj r k ih=>simp only[Sem.bind,Sem.run];(repeat' split) <;> simp_all
 | setObj r o k ih=>simp only[Sem.bind,Sem.run];(repeat' split) <;> simp_all
 | choose q k ih=>simp only[Sem.bind,Sem.run];split <;> simp_all
 | sys c k ih=>simp only[Sem.bind,Sem.run];exact ih _ _
 | program k ih=>simp only[Sem.bind,Sem.run];exact ih _ _
 | mark m k ih=>simp only[Sem.bind,Sem.run];exact ih _
 | halt h=>rfl
def Pu(P:Program)(s:Sem Value)(d:Sh)(k:d.T→World→Prop)(w:World):Prop:=∃x,(∀w',s.run P w'=.ok (d.enc x) w')∧k x w
def RdS(P:Program)(S:World→Prop)(s:Sem Value)(d:Sh)(k:d.T→World→Prop)(w:World):Prop:=∃x,(∀w',S w'→s.run P w'=.ok (d.enc x) w')∧k x w
def Rd(P:Program)(s:Sem Value)(d:Sh)(k:d.T→World→Prop)(w:World):Prop:=∃x,s.run P w=.ok (d.enc x) w∧k x w
def Wr(P:Program)(s:Sem Value)(d:Sh)(k:d.T→World→Prop)(w:World):Prop:=∃x w',s.run P w=.ok (d.enc x) w'∧k x w'
def Wu(P:Program)(s:Sem Unit)(k:World→Prop)(w:World):Prop:=∃w',s.run P w=.ok () w'∧k w'
def Cl(P:Program)(f:FuncId)(args:Array Value)(d:Sh)(k:d.T→World→Prop)(w:World):Prop:=
 Calls P f args w fun e w'=>∃x,e=.returned (d.enc x)∧k x w'
def Nx(P:Program)(s:Sem Next)(d:Sh)(k:d.T→World→Prop)(w:World):Prop:=
 (∃x w',s.run P w=.ok (.value (d.enc x)) w'∧k x w')∨(∃f args w',s.run P w=.ok (.enter f args) w'∧Cl P f args d k w')∨
 (∃r args w',s.run P w=.ok (.row r args) w'∧Rows P r args w' fun v w''=>∃x,v=d.enc x∧k x w'')
def Cd(c:Bool)(A B:Prop):Prop:=(c=true→A)∧(c=false→B)
inductive Tag where
 | now | pu (d:Sh) | rd (d:Sh) | wr (d:Sh) | wu | cl (d:Sh) | nx (d:Sh)
def Tag.early:Tag→Bool
 | .now | .pu _ | .rd _=>true
 | _=>false
def isSel:Op→Bool
 | .select .. =>true
 | _=>false
def allIn(L:Env):List Operand→Bool
 | []=>true
 | x::r=>match ev L x with
  | some _=>allIn L r
  | none=>false
def dstOk(n:Nat):Option Tmp→Bool
 | none=>true
 | some d=>Nat.blt d n
def okOp(n:Nat)(o:Oper)(L:Env):Bool:=match allIn L o.op.operands.toList with
 | true=>match isSel o.op with
  | true=>false
  | false=>dstOk n o.dst
 | false=>false
theorem allIn_mem{L:Env}:∀{xs:List Operand},allIn L xs=true→∀x∈xs,∃v,ev L x=some v
 | [],_,_,hx=>by cases hx
 | y::r,h,x,hx=>by
  simp only[allIn]at h
  cases hy:ev L y with
  | none=>rw[hy]at h;cases h
  | some v=>
   rw[hy]at h
   cases hx with
   | head=>exact⟨v,hy⟩
   | tail _ hx=>exact allIn_mem h x hx
theorem okOp_parts{n:Nat}{o:Oper}{L:Env}(h:okOp n o L=true):
  (∀x∈o.op.operands,∃v,ev L x=some v)∧(∀cs b,o.op≠.select cs b)∧∀t,o.dst=some t→t<n:=by
 unfold okOp at h
 cases h1:allIn L o.op.operands.toList with
 | false=>rw[h1]at h;cases h
 | true=>
  rw[h1]at h;simp only at h
  cases h2:isSel o.op with
  | true=>rw[h2]at h;cases h
  | false=>
   rw[h2]at h;simp only at h
   refine⟨fun x hx=>allIn_mem h1 x (by simpa using hx),fun cs b e=>(by rw[e]at h2;cases h2),fun t ht=>?_⟩
   rw[ht]at h
   simpa [dstOk] using h
theorem exec_evD{n:Nat}{a:Act}{o:Oper}{L:Env}(hs:Slots n a L)(h:okOp n o L=true):execOp a.eval o=execOp (evD L) o:=by
 obtain⟨h1,h2,_⟩:=okOp_parts h
 refine execOp_congr o h2 fun x hx=>?_
 obtain⟨v,hv⟩:=h1 x hx
 rw[hs.ev hv,evD,hv]
def opK(P:Program)(n:Nat)(o:Oper)(t:Tag)(L:Env)(k:Value→World→Prop)(w:World):Prop:=
 match okOp n o L with
 | false=>False
 | true=>match t with
  | .now=>match now P (execOp (evD L) o) with
   | some (.value v)=>k v w
   | some .skip=>k undef w
   | _=>False
  | .pu d=>match semV (evD L) o with
   | some s=>Pu P s d (fun x w'=>k (d.enc x) w') w
   | none=>False
  | .rd d=>match semV (evD L) o with
   | some s=>Rd P s d (fun x w'=>k (d.enc x) w') w
   | none=>False
  | .wr d=>match semV (evD L) o with
   | some s=>Wr P s d (fun x w'=>k (d.enc x) w') w
   | none=>False
  | .wu=>match semU (evD L) o with
   | some s=>Wu P s (fun w'=>k undef w') w
   | none=>False
  | .cl d=>match now P (execOp (evD L) o) with
   | some (.enter f args)=>Cl P f args d (fun x w'=>k (d.enc x) w') w
   | _=>False
  | .nx d=>Nx P (execOp (evD L) o) d (fun x w'=>k (d.enc x) w') w
theorem opK_sound{P:Program}{n:Nat}{o:Oper}{t:Tag}{L:Env}{k:Value→World→Prop}{a:Act}{w:World}{Q:Exit→Act→World→Prop}
  {K:Act→World→Prop} (hs:Slots n a L) (h:opK P n o t L k w) (hk:∀v w',k v w'→K (a.put o.dst v) w'):o.wp P a w K Q:=by
 unfold opK at h
 cases hok:okOp n o L with
 | false=>rw[hok]at h;exact h.elim
 | true=>
  rw[hok]at h;simp only at h
  unfold Oper.wp
  rw[exec_evD hs hok]
  have hcl:∀{f:FuncId} {args:Array Value} {d:Sh} {w1:World},Cl P f args d (fun x w'=>k (d.enc x) w') w1→
    o.upon P a K Q (.ok (.enter f args) w1):=fun hc=>by
   simp only[Oper.upon]
   refine Calls.mono hc fun e w' he=>?_
   obtain⟨x,rfl,hx⟩:=he
   exact hk _ _ hx
  cases t with
  | now=>
   simp only at h
   cases hn:now P (execOp (evD L) o) with
   | none=>rw[hn]at h;exact h.elim
   | some x=>
    rw[hn]at h
    rw[now_run hn w]
    cases x <;> simp only at h <;> first | exact h.elim | skip
    ·exact hk _ _ h
    ·exact hk _ _ h
  | pu d=>
   simp only at h
   cases hm:semV (evD L) o with
   | none=>rw[hm]at h;exact h.elim
   | some s=>
    rw[hm]at h
    obtain⟨x,hx,hkx⟩:=h
    rw[semV_exec hm,run_bind,hx w]
    exact hk _ _ hkx
  | rd d=>
   simp only at h
   cases hm:semV (evD L) o with
   | none=>rw[hm]at h;exact h.elim
   | some s=>
    rw[hm]at h
    obtain⟨x,hx,hkx⟩:=h
    rw[semV_exec hm,run_bind,hx]
    exact hk _ _ hkx
  | wr d=>
   simp only at h
   cases hm:semV (evD L) o with
   | none=>rw[hm]at h;exact h.elim
   | some s=>
    rw[hm]at h
    obtain⟨x,w',hx,hkx⟩:=h
    rw[semV_exec hm,run_bind,hx]
    exact hk _ _ hkx
  | wu=>
   simp only at h
   cases hm:semU (evD L) o with
   | none=>rw[hm]at h;exact h.elim
   | some s=>
    rw[hm]at h
    obtain⟨w',hx,hkx⟩:=h
    rw[semU_exec hm,run_bind,hx]
    exact hk _ _ hkx
  | cl d=>
   simp only at h
   cases hn:now P (execOp (evD L) o) with
   | none=>rw[hn]at h;exact h.elim
   | some x=>
    rw[hn]at h
    rw[now_run hn w]
    cases x <;> simp only at h <;> first | exact h.elim | skip
    exact hcl h
  | nx d=>
   simp only at h
   rcases h with ⟨x,w',hx,hkx⟩ | ⟨f,args,w',hx,hc⟩ | ⟨r,args,w',hx,hc⟩
   ·rw[hx];exact hk _ _ hkx
   ·rw[hx];exact hcl hc
   ·rw[hx]
    simp only[Oper.upon]
    refine Rows.mono hc fun v w'' hv=>?_
    obtain⟨y,rfl,hy⟩:=hv
    exact hk _ _ hy
inductive Plan where
 | done
 | op (i:Nat) (t:Tag) (next:Plan)
 | skip (i:Nat) (next:Plan)
 | split (j:Nat) (yes no:Plan)
 | fork2 (i:Nat) (t:Tag) (one:Plan) (j:Nat) (u:Tag) (two:Plan)
def slotOf(ops:Array Oper)(j:Nat):Option Tmp:=match ops[j]? with
 | some o=>o.dst
 | none=>none
def gd(ops:Array Oper)(o:Oper)(L:Env):Option Bool:=match o.guard with
 | none=>some true
 | some (j,want)=>match slotOf ops j with
  | some t=>match find L t with
   | some (.bool c)=>some (match c,want with | true,true | false,false=>true | _,_=>false)
   | some (.tuple _)=>some false
   | _=>none
  | none=>none
theorem gd_wanted{n:Nat}{ops:Array Oper}{o:Oper}{L:Env}{a:Act}{b:Bool}(hs:Slots n a L)(h:gd ops o L=some b):
  Region.wanted o (yielded ops a.tmps)=b:=by
 unfold gd at h
 unfold Region.wanted
 cases hg:o.guard with
 | none=>rw[hg]at h;cases h;rfl
 | some p=>
  obtain⟨j,want⟩:=p
  rw[hg]at h;simp only at h ⊢
  cases hsl:slotOf ops j with
  | none=>rw[hsl]at h;cases h
  | some t=>
   rw[hsl]at h;simp only at h
   cases hf:find L t with
   | none=>rw[hf]at h;cases h
   | some v=>
    rw[hf]at h
    have ht:=(hs.vals t _ hf).2
    cases v <;> simp only at h <;> try cases h
    ·rename_i c
     have hy:yielded ops a.tmps j=some c:=by
      unfold yielded
      unfold slotOf at hsl
      cases hj:ops[j]? with
      | none=>rw[hj]at hsl;cases hsl
      | some oj=>rw[hj]at hsl;simp only at hsl;simp only[Option.bind_some,hsl,ht]
     rw[hy]
     cases c <;> cases want <;> rfl
    ·have hy:yielded ops a.tmps j=none:=by
      unfold yielded
      unfold slotOf at hsl
      cases hj:ops[j]? with
      | none=>rfl
      | some oj=>rw[hj]at hsl;simp only at hsl;simp only[Option.bind_some,hsl,ht]
     rw[hy]
     cases want <;> rfl
def liftN(P:Program)(n:Nat)(ops:Array Oper):Plan→Nat→Env→(Env→World→Prop)→World→Prop
 | .done,i,L,K,w=>match Nat.beq i ops.size with
  | true=>K L w
  | false=>False
 | .op j t p,i,L,K,w=>match Nat.beq i j with
  | false=>False
  | true=>match ops[i]? with
   | none=>False
   | some o=>match gd ops o L with
    | some true=>opK P n o t L (fun v w'=>liftN P n ops p (i+1) (push n o.dst v L) K w') w
    | _=>False
 | .skip j p,i,L,K,w=>match Nat.beq i j with
  | false=>False
  | true=>match ops[i]? with
   | none=>False
   | some o=>match gd ops o L with
    | some false=>match dstOk n o.dst with
     | true=>liftN P n ops p (i+1) (push n o.dst undef L) K w
     | false=>False
    | _=>False
 | .split j p q,i,L,K,w=>match slotOf ops j with
  | none=>False
  | some t=>match find L t with
   | some (.bool c)=>Cd c (liftN P n ops p i ((t,.bool true)::L) K w) (liftN P n ops q i ((t,.bool false)::L) K w)
   | _=>False
 | .fork2 ..,_,_,_,_=>False
theorem liftN_sound{P:Program}{n:Nat}{ops:Array Oper}{Q:Exit→Act→World→Prop}:
  ∀(p:Plan) (i:Nat) (L:Env) (K:Env→World→Prop) (a:Act) (w:World),i≤ops.size→Slots n a L→liftN P n ops p i L K w→
   (∀a L w,Slots n a L→K L w→Q .normal a w)→wpOps P ops Q ((List.range' i (ops.size-i))) a w:=by
 intro p
 induction p with
 | done=>
  intro i L K a w hi hs h hq
  simp only[liftN]at h
  cases hb:Nat.beq i ops.size with
  | false=>rw[hb]at h;exact h.elim
  | true=>
   rw[hb]at h
   have e:i=ops.size:=Nat.eq_of_beq_eq_true hb
   subst e
   rw[Nat.sub_self]
   exact hq _ _ _ hs h
 | op j t p ih=>
  intro i L K a w hi hs h hq
  simp only[liftN]at h
  cases hb:Nat.beq i j with
  | false=>rw[hb]at h;exact h.elim
  | true=>
   rw[hb]at h;simp only at h
   cases ho:ops[i]? with
   | none=>rw[ho]at h;exact h.elim
   | some o=>
    rw[ho]at h;simp only at h
    have hlt:i<ops.size:=(Array.getElem?_eq_some_iff.1 ho).1
    cases hg:gd ops o L with
    | none=>rw[hg]at h;exact h.elim
    | some b=>
     rw[hg]at h
     cases b <;> simp only at h
     obtain⟨m,hm⟩:∃m,ops.size-i=m+1:=⟨ops.size-i-1,by omega⟩
     rw[hm,List.range'_succ]
     simp only[wpOps,ho,gd_wanted hs hg,if_true]
     refine .inl (opK_sound hs h fun v w' hv=>?_)
     have hd:∀t,o.dst=some t→t<n:=by
      unfold opK at h
      cases hok:okOp n o L with
      | false=>rw[hok]at h;exact h.elim
      | true=>exact(okOp_parts hok).2.2
     have:=ih (i+1) _ K _ w' (by omega) (hs.put o.dst v hd) hv hq
     rwa [show ops.size-(i+1)=m by omega]at this
 | skip j p ih=>
  intro i L K a w hi hs h hq
  simp only[liftN]at h
  cases hb:Nat.beq i j with
  | false=>rw[hb]at h;exact h.elim
  | true=>
   rw[hb]at h;simp only at h
   cases ho:ops[i]? with
   | none=>rw[ho]at h;exact h.elim
   | some o=>
    rw[ho]at h;simp only at h
    have hlt:i<ops.size:=(Array.getElem?_eq_some_iff.1 ho).1
    cases hg:gd ops o L with
    | none=>rw[hg]at h;exact h.elim
    | some b=>
     rw[hg]at h
     cases b <;> simp only at h
     cases hd:dstOk n o.dst with
     | false=>rw[hd]at h;exact h.elim
     | true=>
      rw[hd]at h;simp only at h
      obtain⟨m,hm⟩:∃m,ops.size-i=m+1:=⟨ops.size-i-1,by omega⟩
      rw[hm,List.range'_succ]
      simp only[wpOps,ho,gd_wanted hs hg,Bool.false_eq_true,if_false]
      have:=ih (i+1) _ K _ w (by omega) (hs.put o.dst undef (fun t ht=>by rw[ht]at hd;simpa [dstOk] using hd)) h hq
      rwa [show ops.size-(i+1)=m by omega]at this
 | split j p q ihp ihq=>
  intro i L K a w hi hs h hq
  simp only[liftN]at h
  cases hsl:slotOf ops j with
  | none=>rw[hsl]at h;exact h.elim
  | some t=>
   rw[hsl]at h;simp only at h
   cases hf:find L t with
   | none=>rw[hf]at h;exact h.elim
   | some v=>
    rw[hf]at h
    cases v <;> simp only at h <;> try exact h.elim
    rename_i c
    cases hc:c with
    | true=>exact ihp i _ K a w hi (hs.refine hf hc) (h.1 hc) hq
    | false=>exact ihq i _ K a w hi (hs.refine hf hc) (h.2 hc) hq
 | fork2 i1 t1 p j1 t2 q _ _=>intro i L K a w _ _ h _;simp only[liftN]at h
def earlyK(P:Program)(n:Nat)(S:World→Prop)(o:Oper)(t:Tag)(L:Env)(k:Value→World→Prop)(w:World):Prop:=
 match okOp n o L with
 | false=>False
 | true=>match t with
  | .now=>match now P (execOp (evD L) o) with
   | some (.value v)=>k v w
   | _=>False
  | .pu d=>match semV (evD L) o with
   | some s=>Pu P s d (fun x w'=>k (d.enc x) w') w
   | none=>False
  | .rd d=>match semV (evD L) o with
   | some s=>RdS P S s d (fun x w'=>k (d.enc x) w') w
   | none=>False
  | _=>False
theorem earlyK_sound{P:Program}{n:Nat}{S:World→Prop}{ops:Array Oper}{o:Oper}{t:Tag}{L:Env}{k:Value→World→Prop}{a:Act}{w:World}
  (hs:Slots n a L) (hw:Region.wanted o (yielded ops a.tmps)=true) (h:earlyK P n S o t L k w):∃v,YieldsIf P ops S o v a∧k v w:=by
 unfold earlyK at h
 cases hok:okOp n o L with
 | false=>rw[hok]at h;exact h.elim
 | true=>
  rw[hok]at h;simp only at h
  cases t with
  | now=>
   simp only at h
   cases hn:now P (execOp (evD L) o) with
   | none=>rw[hn]at h;exact h.elim
   | some x=>
    rw[hn]at h
    cases x <;> simp only at h <;> first | exact h.elim | skip
    exact⟨_,.inl ⟨hw,fun w' _=>by rw[exec_evD hs hok,now_run hn w']⟩,h⟩
  | pu d=>
   simp only at h
   cases hm:semV (evD L) o with
   | none=>rw[hm]at h;exact h.elim
   | some s=>
    rw[hm]at h
    obtain⟨x,hx,hkx⟩:=h
    exact⟨_,.inl ⟨hw,fun w' _=>by rw[exec_evD hs hok,semV_exec hm,run_bind,hx w'];rfl⟩,hkx⟩
  | rd d=>
   simp only at h
   cases hm:semV (evD L) o with
   | none=>rw[hm]at h;exact h.elim
   | some s=>
    rw[hm]at h
    obtain⟨x,hx,hkx⟩:=h
    exact⟨_,.inl ⟨hw,fun w' hS=>by rw[exec_evD hs hok,semV_exec hm,run_bind,hx w' hS];rfl⟩,hkx⟩
  | _=>exact h.elim
def mem(i:Nat):List Nat→Bool
 | []=>false
 | j::r=>match Nat.beq i j with
  | true=>true
  | false=>mem i r
theorem mem_mem{i:Nat}:∀{l:List Nat},mem i l=true→i∈l
 | [],h=>by cases h
 | j::r,h=>by
  simp only[mem]at h
  cases hb:Nat.beq i j with
  | true=>exact List.mem_cons.2 (.inl (Nat.eq_of_beq_eq_true hb))
  | false=>rw[hb]at h;exact List.mem_cons.2 (.inr (mem_mem h))
def liftD(P:Program)(n:Nat)(ops:Array Oper)(S:World→Prop):Plan→Nat→Array Bool→Env→(Env→World→Prop)→World→Prop
 | .done,_,b,L,K,w=>match Region.ready .any ops b with
  | []=>K L w
  | _=>False
 | .op _ _ _,0,_,_,_,_=>False
 | .op i t p,f+1,b,L,K,w=>match ops[i]? with
  | none=>False
  | some o=>match gd ops o L with
   | some true=>match t.early with
    | true=>match Region.free .any ops b i with
     | true=>match mem i (Region.ready .any ops b) with
      | true=>earlyK P n S o t L (fun v w'=>liftD P n ops S p f (b.setIfInBounds i true) (push n o.dst v L) K w') w
      | false=>False
     | false=>False
    | false=>match Region.ready .any ops b with
     | [j]=>match Nat.beq i j with
      | true=>opK P n o t L (fun v w'=>S w'∧liftD P n ops S p f (b.setIfInBounds i true) (push n o.dst v L) K w') w
      | false=>False
     | _=>False
   | _=>False
 | .skip _ _,0,_,_,_,_=>False
 | .skip i p,f+1,b,L,K,w=>match ops[i]? with
  | none=>False
  | some o=>match gd ops o L with
   | some false=>match Region.free .any ops b i with
    | true=>match mem i (Region.ready .any ops b) with
     | true=>match dstOk n o.dst with
      | true=>liftD P n ops S p f (b.setIfInBounds i true) (push n o.dst undef L) K w
      | false=>False
     | false=>False
    | false=>False
   | _=>False
 | .split j p q,f,b,L,K,w=>match slotOf ops j with
  | none=>False
  | some t=>match find L t with
   | some (.bool c)=>Cd c (liftD P n ops S p f b ((t,.bool true)::L) K w) (liftD P n ops S q f b ((t,.bool false)::L) K w)
   | _=>False
 | .fork2 ..,0,_,_,_,_=>False
 | .fork2 i t p j u q,f+1,b,L,K,w=>match Region.ready .any ops b with
  | [i',j']=>match Nat.beq i i',Nat.beq j j' with
   | true,true=>(match ops[i]? with
     | some o=>match gd ops o L with
      | some true=>opK P n o t L (fun v w'=>S w'∧liftD P n ops S p f (b.setIfInBounds i true) (push n o.dst v L) K w') w
      | _=>False
     | _=>False)∧
     (match ops[j]? with
     | some o=>match gd ops o L with
      | some true=>opK P n o u L (fun v w'=>S w'∧liftD P n ops S q f (b.setIfInBounds j true) (push n o.dst v L) K w') w
      | _=>False
     | _=>False)
   | _,_=>False
  | _=>False
theorem opK_dst{P:Program}{n:Nat}{o:Oper}{t:Tag}{L:Env}{k:Value→World→Prop}{w:World}(h:opK P n o t L k w):∀t,o.dst=some t→t<n:=by
 unfold opK at h
 cases hok:okOp n o L with
 | false=>rw[hok]at h;exact h.elim
 | true=>exact(okOp_parts hok).2.2
theorem earlyK_dst{P:Program}{n:Nat}{S:World→Prop}{o:Oper}{t:Tag}{L:Env}{k:Value→World→Prop}{w:World}(h:earlyK P n S o t L k w):∀t,o.dst=some t→t<n:=by
 unfold earlyK at h
 cases hok:okOp n o L with
 | false=>rw[hok]at h;exact h.elim
 | true=>exact(okOp_parts hok).2.2
theorem opK_mono{P:Program}{n:Nat}{o:Oper}{t:Tag}{L:Env}{k k':Value→World→Prop}{w:World}(h:opK P n o t L k w)(hk:∀v w,k v w→k' v w):opK P n o t L k' w:=by
 unfold opK at*
 cases hok:okOp n o L with
 | false=>rw[hok]at h;exact h.elim
 | true=>
  rw[hok]at h;simp only at h ⊢
  have hcl:∀{f:FuncId} {args:Array Value} {d:Sh} {w1:World},Cl P f args d (fun x w'=>k (d.enc x) w') w1→Cl P f args d (fun x w'=>k' (d.enc x) w') w1:=
   fun hc=>Calls.mono hc fun e w' ⟨x,he,hx⟩=>⟨x,he,hk _ _ hx⟩
  cases t with
  | now=>simp only at h ⊢;split <;> simp_all
  | pu d=>simp only at h ⊢;split at h <;> first | exact h.elim | (obtain⟨x,hx,hkx⟩:=h;exact⟨x,hx,hk _ _ hkx⟩)
  | rd d=>simp only at h ⊢;split at h <;> first | exact h.elim | (obtain⟨x,hx,hkx⟩:=h;exact⟨x,hx,hk _ _ hkx⟩)
  | wr d=>simp only at h ⊢;split at h <;> first | exact h.elim | (obtain⟨x,w',hx,hkx⟩:=h;exact⟨x,w',hx,hk _ _ hkx⟩)
  | wu=>simp only at h ⊢;split at h <;> first | exact h.elim | (obtain⟨w',hx,hkx⟩:=h;exact⟨w',hx,hk _ _ hkx⟩)
  | cl d=>simp only at h ⊢;split at h <;> first | exact h.elim | exact hcl h
  | nx d=>
   simp only at h ⊢
   rcases h with ⟨x,w',hx,hkx⟩ | ⟨f,args,w',hx,hc⟩ | ⟨r,args,w',hx,hc⟩
   ·exact .inl ⟨x,w',hx,hk _ _ hkx⟩
   ·exact .inr (.inl ⟨f,args,w',hx,hcl hc⟩)
   ·exact .inr (.inr ⟨r,args,w',hx,Rows.mono hc fun v w'' ⟨y,hy,hky⟩=>⟨y,hy,hk _ _ hky⟩⟩)
theorem opK_any{P:Program}{n:Nat}{ops:Array Oper}{S:World→Prop}{Q:Exit→Act→World→Prop}{i:Nat}{o:Oper}{t:Tag}{L:Env}{a:Act}{w:World}
  {k:Env→World→Prop} {K:Act→World→Prop} (ho:ops[i]? =some o) (hs:Slots n a L) (hg:gd ops o L=some true)
  (h:opK P n o t L (fun v w'=>S w'∧k (push n o.dst v L) w') w) (hk:∀a L w,Slots n a L→k L w→K a w):
  wpOp P ops Q i (fun a' w'=>S w'∧K a' w') a w:=by
 unfold wpOp
 simp only[ho,gd_wanted hs hg,if_true]
 exact .inl (opK_sound hs h fun v w' hv=>⟨hv.1,hk _ _ _ (hs.put o.dst v (opK_dst h)) hv.2⟩)
theorem liftD_sound{P:Program}{n:Nat}{ops:Array Oper}{S:World→Prop}{Q:Exit→Act→World→Prop}(hsel:Region.noSelect ops=true)
  (hQ:∀c a w,¬Q (.panic c) a w):
  ∀(p:Plan) (f:Nat) (b:Array Bool) (L:Env) (K:Env→World→Prop) (a:Act) (w:World),S w→Slots n a L→liftD P n ops S p f b L K w→
   (∀a L w,Slots n a L→K L w→Q .normal a w)→wpAnyH P .any ops Q S f b a w:=by
 intro p
 induction p with
 | done=>
  intro f b L K a w hS hs h hq
  simp only[liftD]at h
  cases hr:Region.ready .any ops b with
  | cons x xs=>rw[hr]at h;exact h.elim
  | nil=>rw[hr]at h;exact wpAnyH_done hr (hq _ _ _ hs h) f
 | op i t p ih=>
  intro f b L K a w hS hs h hq
  cases f with
  | zero=>simp only[liftD]at h
  | succ f=>
   simp only[liftD]at h
   cases ho:ops[i]? with
   | none=>rw[ho]at h;exact h.elim
   | some o=>
    rw[ho]at h;simp only at h
    cases hg:gd ops o L with
    | none=>rw[hg]at h;exact h.elim
    | some g=>
     rw[hg]at h
     cases g <;> simp only at h
     cases he:t.early with
     | true=>
      rw[he]at h;simp only at h
      cases hfr:Region.free .any ops b i with
      | false=>rw[hfr]at h;exact h.elim
      | true=>
       rw[hfr]at h;simp only at h
       cases hm:mem i (Region.ready .any ops b) with
       | false=>rw[hm]at h;exact h.elim
       | true=>
        rw[hm]at h;simp only at h
        obtain⟨v,hy,hv⟩:=earlyK_sound hs (gd_wanted hs hg) h
        refine wpAnyH_take ho hsel hfr (by simpa using mem_mem hm) (fun c a w hc=>(hQ _ _ _ hc).elim) hy hS ?_
        exact ih f _ _ K _ w hS (hs.put o.dst v (earlyK_dst h)) hv hq
     | false=>
      rw[he]at h;simp only at h
      cases hr:Region.ready .any ops b with
      | nil=>rw[hr]at h;exact h.elim
      | cons j r=>
       rw[hr]at h
       cases r with
       | cons _ _=>exact h.elim
       | nil=>
        simp only at h
        cases hb:Nat.beq i j with
        | false=>rw[hb]at h;exact h.elim
        | true=>
         rw[hb]at h;simp only at h
         have e:i=j:=Nat.eq_of_beq_eq_true hb
         subst e
         refine wpAnyH_all hr (by simp) fun x hx=>?_
         obtain rfl:=List.mem_singleton.1 hx
         have h':=opK_any (S:=fun w'=>S w') (k:=fun L' w'=>S w'∧liftD P n ops S p f (b.setIfInBounds x true) L' K w') (Q:=Q) (K:=fun a' w'=>wpAnyH P .any ops Q S f (b.setIfInBounds x true) a' w')
          ho hs hg (by
           refine opK_mono h fun v w' hv=>⟨hv.1,hv⟩) (fun a L w hs hk=>ih f _ _ K _ w hk.1 hs hk.2 hq)
         exact h'
 | skip i p ih=>
  intro f b L K a w hS hs h hq
  cases f with
  | zero=>simp only[liftD]at h
  | succ f=>
   simp only[liftD]at h
   cases ho:ops[i]? with
   | none=>rw[ho]at h;exact h.elim
   | some o=>
    rw[ho]at h;simp only at h
    cases hg:gd ops o L with
    | none=>rw[hg]at h;exact h.elim
    | some g=>
     rw[hg]at h
     cases g <;> simp only at h
     cases hfr:Region.free .any ops b i with
     | false=>rw[hfr]at h;exact h.elim
     | true=>
      rw[hfr]at h;simp only at h
      cases hm:mem i (Region.ready .any ops b) with
      | false=>rw[hm]at h;exact h.elim
      | true=>
       rw[hm]at h;simp only at h
       cases hd:dstOk n o.dst with
       | false=>rw[hd]at h;exact h.elim
       | true=>
        rw[hd]at h;simp only at h
        refine wpAnyH_take ho hsel hfr (by simpa using mem_mem hm) (fun c a w hc=>(hQ _ _ _ hc).elim) (.inr ⟨gd_wanted hs hg,rfl⟩) hS ?_
        exact ih f _ _ K _ w hS (hs.put o.dst undef (fun t ht=>by rw[ht]at hd;simpa [dstOk] using hd)) h hq
 | split j p q ihp ihq=>
  intro f b L K a w hS hs h hq
  simp only[liftD]at h
  cases hsl:slotOf ops j with
  | none=>rw[hsl]at h;exact h.elim
  | some t=>
   rw[hsl]at h;simp only at h
   cases hf:find L t with
   | none=>rw[hf]at h;exact h.elim
   | some v=>
    rw[hf]at h
    cases v <;> simp only at h <;> try exact h.elim
    rename_i c
    cases hc:c with
    | true=>exact ihp f b _ K a w hS (hs.refine hf hc) (h.1 hc) hq
    | false=>exact ihq f b _ K a w hS (hs.refine hf hc) (h.2 hc) hq
 | fork2 i t p j u q ihp ihq=>
  intro f b L K a w hS hs h hq
  cases f with
  | zero=>simp only[liftD]at h
  | succ f=>
   simp only[liftD]at h
   cases hr:Region.ready .any ops b with
   | nil=>rw[hr]at h;exact h.elim
   | cons i' r=>
    rw[hr]at h
    cases r with
    | nil=>exact h.elim
    | cons j' r=>
     cases r with
     | cons _ _=>exact h.elim
     | nil=>
      simp only at h
      cases hbi:Nat.beq i i' with
      | false=>rw[hbi]at h;simp only at h
      | true=>
       cases hbj:Nat.beq j j' with
       | false=>rw[hbi,hbj]at h;simp only at h
       | true=>
        rw[hbi,hbj]at h;simp only at h
        have ei:i=i':=Nat.eq_of_beq_eq_true hbi
        have ej:j=j':=Nat.eq_of_beq_eq_true hbj
        subst ei ej
        obtain⟨h1,h2⟩:=h
        refine wpAnyH_all hr (by simp) fun x hx=>?_
        have one:∀(y:Nat) (t:Tag) (p:Plan) (ih:∀(f:Nat) (b:Array Bool) (L:Env) (K:Env→World→Prop) (a:Act) (w:World),S w→Slots n a L→liftD P n ops S p f b L K w→
          (∀a L w,Slots n a L→K L w→Q .normal a w)→wpAnyH P .any ops Q S f b a w)
          (h:match ops[y]? with
           | some o=>match gd ops o L with
            | some true=>opK P n o t L (fun v w'=>S w'∧liftD P n ops S p f (b.setIfInBounds y true) (push n o.dst v L) K w') w
            | _=>False
           | _=>False),wpOp P ops Q y (fun a' w'=>S w'∧wpAnyH P .any ops Q S f (b.setIfInBounds y true) a' w') a w:=by
         intro y t p ih h
         cases ho:ops[y]? with
         | none=>rw[ho]at h;exact h.elim
         | some o=>
          rw[ho]at h;simp only at h
          cases hg:gd ops o L with
          | none=>rw[hg]at h;exact h.elim
          | some g=>
           rw[hg]at h
           cases g <;> simp only at h
           exact opK_any (S:=fun w'=>S w') (k:=fun L' w'=>S w'∧liftD P n ops S p f (b.setIfInBounds y true) L' K w') (Q:=Q) (K:=fun a' w'=>wpAnyH P .any ops Q S f (b.setIfInBounds y true) a' w')
            ho hs hg (opK_mono h fun v w' hv=>⟨hv.1,hv⟩) (fun a L w hs hk=>ih f _ _ K _ w hk.1 hs hk.2 hq)
        rcases List.mem_cons.1 hx with rfl | hx
        ·exact one _ t p ihp h1
        ·obtain rfl:=List.mem_singleton.1 hx
         exact one _ u q ihq h2
end Go.Cu
namespace Go.Cu
open Go
def iterW{σ:Type}(B:(σ→World→Prop)→σ→World→Prop):Nat→σ→World→Prop
 | 0=>fun _ _=>False
 | n+1=>B (iterW B n)
def arZ{σ:Type}(B:(σ→World→Prop)→σ→World→Prop)(s:σ)(w:World):Prop:=∃n,iterW B n s w
theorem acZ{σ:Type}{B:(σ→World→Prop)→σ→World→Prop}(I:σ→World→Prop)(μ:σ→World→Nat)
  (h:∀(k:σ→World→Prop) s w,I s w→(∀s' w',I s' w'→μ s' w'<μ s w→k s' w')→B k s w) {s:σ} {w:World} (h0:I s w):arZ B s w:=by
 have key:∀n s w,I s w→μ s w<n→iterW B n s w:=by
  intro n
  induction n with
  | zero=>intro s w _ h;omega
  | succ n ih=>intro s w hI hn;exact h _ s w hI fun s' w' hI' hlt=>ih s' w' hI' (by omega)
 exact⟨_,key _ s w h0 (Nat.lt_succ_self _)⟩
inductive Ann where
 | leaf
 | reg (p:Plan)
 | regQ (p:Plan)
 | regD (p:Plan)
 | seq (a b:Ann)
 | join (l:List (Nat×Cx)) (J:St l→World→Prop) (a b:Ann)
 | cond (a b:Ann)
 | condK (b:Bool) (a:Ann)
 | block (a:Ann)
 | scope (a:Ann)
 | loop (l:List (Nat×Cx)) (B:(St l→World→Prop)→St l→World→Prop) (a:(St l→World→Prop)→Ann)
abbrev qN1:Plan:=(.op 0 .now (.done))
abbrev qN2:Plan:=(.op 0 .now (.op 1 .now (.done)))
abbrev qN3:Plan:=(.op 0 .now (.op 1 .now (.op 2 .now (.done))))
abbrev qN4:Plan:=(.op 0 .now (.op 1 .now (.op 2 .now (.op 3 .now (.done)))))
abbrev qN5:Plan:=(.op 0 .now (.op 1 .now (.op 2 .now (.op 3 .now (.op 4 .now (.done))))))
abbrev qN6:Plan:=(.op 0 .now (.op 1 .now (.op 2 .now (.op 3 .now (.op 4 .now (.op 5 .now (.done)))))))
abbrev qN7:Plan:=(.op 0 .now (.op 1 .now (.op 2 .now (.op 3 .now (.op 4 .now (.op 5 .now (.op 6 .now (.done))))))))
abbrev qpA:Tag:=(.pu (.one (.at .addr)))
abbrev qrS:Tag:=(.rd (.one (.at .sl)))
abbrev qrB:Tag:=(.rd (.one (.at (.int .u8))))
abbrev qcI:Cx:=(.at (.int .i64))
abbrev qcS:Cx:=(.at .sl)
abbrev qcB:Cx:=(.at (.int .u8))
abbrev qcP:Cx:=(.at .ptr)
abbrev EPq:=Ending→World→Prop
abbrev WPq:=World→Prop
theorem tv:True:=trivial
theorem mq{A B:Prop}(e:A=B:=by kernel_rfl):A→B:=Eq.mp e
abbrev Post:=Exit→Env→World→Prop
def thenE(K:Env→World→Prop)(Q:Post):Post
 | .normal,L,w=>K L w
 | e,L,w=>Q e L w
def blockE(id:Nat)(Q:Post):Post
 | .exit j,L,w=>match Nat.beq j id with
  | true=>Q .normal L w
  | false=>Q (.exit j) L w
 | e,L,w=>Q e L w
def scopeE(Q:Post):Post
 | .goto _,_,_=>False
 | e,L,w=>Q e L w
def projK(l:List (Nat×Cx))(J:St l→World→Prop)(L:Env)(w:World):Prop:=match projS l L with
 | some s=>J s w
 | none=>False
def Same(w w':World):Prop:=w'=w
def Held(w:World)(f:(World→Prop)→Prop):Prop:=∃S:World→Prop,S w∧f S
def lift(P:Program)(n:Nat):Code→Ann→Env→Post→World→Prop
 | .skip,.leaf,L,Q,w=>Q .normal L w
 | .label _,.leaf,L,Q,w=>Q .normal L w
 | .exit id,.leaf,L,Q,w=>Q (.exit id) L w
 | .goto l,.leaf,L,Q,w=>Q (.goto l) L w
 | .ret,.leaf,L,Q,w=>Q .ret L w
 | .region _ ops false,.reg p,L,Q,w=>liftN P n ops p 0 L (fun L w=>Q .normal L w) w
 | .region _ ops true,.regQ p,L,Q,w=>liftD P n ops (Same w.drew) p ops.size (Array.replicate ops.size false) L (fun L w=>Q .normal L w) w.drew
 | .region _ ops true,.regD p,L,Q,w=>Held w.drew fun S=>liftD P n ops S p ops.size (Array.replicate ops.size false) L (fun L w=>Q .normal L w) w.drew
 | .seq x y,.seq a b,L,Q,w=>lift P n x a L (thenE (fun L w=>lift P n y b L Q w) Q) w
 | .seq x _,.join l J a _,L,Q,w=>lift P n x a L (thenE (projK l J) Q) w
 | .cond c x y,.cond a b,L,Q,w=>match ev L c with
  | some (.bool t)=>Cd t (lift P n x a L Q w) (lift P n y b L Q w)
  | _=>False
 | .cond c x _,.condK true a,L,Q,w=>match ev L c with
  | some (.bool true)=>lift P n x a L Q w
  | _=>False
 | .cond c _ y,.condK false a,L,Q,w=>match ev L c with
  | some (.bool false)=>lift P n y a L Q w
  | _=>False
 | .block id x,.block a,L,Q,w=>lift P n x a L (blockE id Q) w
 | .scope x,.scope a,L,Q,w=>lift P n x a L (scopeE Q) w
 | .loop _,.loop l B _,L,_,w=>projK l (arZ B) L w
 | _,_,_,_,_=>False
def oks(P:Program)(n:Nat):Code→Ann→Post→Prop
 | .region _ ops true,.regQ _,_=>Region.noSelect ops=true
 | .region _ ops true,.regD _,_=>Region.noSelect ops=true
 | .seq x y,.seq a b,Q=>oks P n x a (thenE (fun L w=>lift P n y b L Q w) Q)∧oks P n y b Q
 | .seq x y,.join l J a b,Q=>(∀s w,J s w→lift P n y b (encS l s) Q w)∧oks P n x a (thenE (projK l J) Q)∧oks P n y b Q
 | .cond _ x y,.cond a b,Q=>oks P n x a Q∧oks P n y b Q
 | .cond _ x _,.condK true a,Q=>oks P n x a Q
 | .cond _ _ y,.condK false a,Q=>oks P n y a Q
 | .block id x,.block a,Q=>oks P n x a (blockE id Q)
 | .scope x,.scope a,Q=>oks P n x a (scopeE Q)
 | .loop x,.loop l B a,Q=>∀k,(∀s w,B k s w→lift P n x (a k) (encS l s) (thenE (projK l k) Q) w)∧oks P n x (a k) (thenE (projK l k) Q)
 | _,_,_=>True
def semQ(n:Nat)(Q:Post):Exit→Act→World→Prop
 | .panic _,_,_=>False
 | .outgrown,_,_=>False
 | e,a,w=>∃L,Slots n a L∧Q e L w
theorem semQ_then{n:Nat}{K:Env→World→Prop}{Q:Post}{K':Act→World→Prop}(h:∀a L w,Slots n a L→K L w→K' a w):
  ∀e a w,semQ n (thenE K Q) e a w→Exit.then K' (semQ n Q) e a w:=by
 intro e a w hq
 cases e <;> simp only[semQ,thenE,Exit.then]at hq ⊢ <;> first | exact hq | (obtain⟨L,hs,hl⟩:=hq;first | exact h _ _ _ hs hl | exact⟨L,hs,hl⟩)
theorem lift_sound{P:Program}{n:Nat}(hmix:P.follows .mixedOrders=true):∀(an:Ann) (c:Code) (Q:Post) (L:Env) (a:Act) (w:World),
  oks P n c an Q→lift P n c an L Q w→Slots n a L→c.wp P (semQ n Q) a w:=by
 intro an
 induction an with
 | leaf=>
  intro c Q L a w _ h hs
  cases c <;> (try simp only[lift]at h) <;> try exact h.elim
  case skip=>exact wp_skip ⟨L,hs,h⟩
  case label=>exact wp_label ⟨L,hs,h⟩
  case exit=>exact wp_exit ⟨L,hs,h⟩
  case goto=>exact wp_goto ⟨L,hs,h⟩
  case ret=>exact wp_ret ⟨L,hs,h⟩
 | reg p=>
  intro c Q L a w ho h hs
  cases c <;> (try simp only[lift]at h) <;> try exact h.elim
  case region id ops d=>
   cases d <;> (try simp only[lift]at h) <;> try exact h.elim
   refine wp_region ?_
   have:=liftN_sound (Q:=semQ n Q) p 0 L _ a w (Nat.zero_le _) hs h (fun a L w hs hk=>⟨L,hs,hk⟩)
   rwa [Nat.sub_zero,←List.range_eq_range']at this
 | regQ p=>
  intro c Q L a w ho h hs
  cases c <;> (try simp only[lift]at h) <;> try exact h.elim
  case region id ops d=>
   cases d <;> simp only[lift]at h <;> try exact h.elim
   exact wp_region_held hmix (liftD_sound (S:=Same w.drew) ho (fun c a w hc=>hc) p _ _ L _ a _ rfl hs h (fun a L w hs hk=>⟨L,hs,hk⟩))
 | regD p=>
  intro c Q L a w ho h hs
  cases c <;> (try simp only[lift]at h) <;> try exact h.elim
  case region id ops d=>
   cases d <;> simp only[lift]at h <;> try exact h.elim
   obtain⟨S,hS,h⟩:=h
   exact wp_region_held hmix (liftD_sound ho (fun c a w hc=>hc) p _ _ L _ a _ hS hs h (fun a L w hs hk=>⟨L,hs,hk⟩))
 | seq a1 a2 ih1 ih2=>
  intro c Q L a w ho h hs
  cases c <;> (try simp only[lift]at h) <;> try exact h.elim
  case seq x y=>
   simp only[oks]at ho
   refine wp_seq (wp_mono (ih1 x _ L a w ho.1 h hs) (semQ_then fun a L w hs hk=>ih2 y Q L a w ho.2 hk hs))
 | join l J a1 a2 ih1 ih2=>
  intro c Q L a w ho h hs
  cases c <;> (try simp only[lift]at h) <;> try exact h.elim
  case seq x y=>
   simp only[oks]at ho
   refine wp_seq (wp_mono (ih1 x _ L a w ho.2.1 h hs) (semQ_then fun a L w hs hk=>?_))
   simp only[projK]at hk
   cases hp:projS l L with
   | none=>rw[hp]at hk;exact hk.elim
   | some s=>rw[hp]at hk;exact ih2 y Q _ a w ho.2.2 (ho.1 s w hk) (hs.proj hp)
 | cond a1 a2 ih1 ih2=>
  intro c Q L a w ho h hs
  cases c <;> (try simp only[lift]at h) <;> try exact h.elim
  case cond c x y=>
   simp only[oks]at ho
   cases he:ev L c with
   | none=>rw[he]at h;exact h.elim
   | some v=>
    rw[he]at h
    cases v <;> simp only at h <;> try exact h.elim
    rename_i t
    exact wp_cond_split (hs.ev he) (fun ht=>ih1 x Q L a w ho.1 (h.1 ht) hs) (fun ht=>ih2 y Q L a w ho.2 (h.2 ht) hs)
 | condK b a1 ih1=>
  intro c Q L a w ho h hs
  cases c <;> (try simp only[lift]at h) <;> try exact h.elim
  case cond c x y=>
   cases b <;> simp only[lift]at h <;> simp only[oks]at ho
   all_goals
    cases he:ev L c with
    | none=>rw[he]at h;exact h.elim
    | some v=>
     rw[he]at h
     cases v <;> (try simp only at h) <;> try exact h.elim
     rename_i t
     cases t <;> simp only at h
     first
      | exact wp_cond_false (hs.ev he) (ih1 y Q L a w ho h hs)
      | exact wp_cond_true (hs.ev he) (ih1 x Q L a w ho h hs)
 | block a1 ih1=>
  intro c Q L a w ho h hs
  cases c <;> (try simp only[lift]at h) <;> try exact h.elim
  case block id x=>
   simp only[oks]at ho
   refine wp_block (wp_mono (ih1 x _ L a w ho h hs) fun e a w hq=>?_)
   cases e <;> (try simp only[semQ,blockE,Exit.inBlock]at hq ⊢) <;> try exact hq
   rename_i j
   obtain⟨L,hs,hl⟩:=hq
   by_cases hj:j=id
   ·subst hj
    rw[if_pos rfl]
    rw[show Nat.beq j j=true from Nat.beq_refl j]at hl
    exact⟨L,hs,hl⟩
   ·rw[if_neg hj]
    have:Nat.beq j id=false:=by
     cases hb:Nat.beq j id with
     | false=>rfl
     | true=>exact absurd (Nat.eq_of_beq_eq_true hb) hj
    rw[this]at hl
    exact⟨L,hs,hl⟩
 | scope a1 ih1=>
  intro c Q L a w ho h hs
  cases c <;> (try simp only[lift]at h) <;> try exact h.elim
  case scope x=>
   simp only[oks]at ho
   refine wp_scope_straight (wp_mono (ih1 x _ L a w ho h hs) fun e a w hq=>?_)
   cases e <;> simp only[semQ,scopeE,Exit.noGoto]at hq ⊢ <;> first | exact hq | (obtain⟨L,_,h⟩:=hq;exact h.elim)
 | loop l B a1 ih1=>
  intro c Q L a w ho h hs
  cases c <;> (try simp only[lift]at h) <;> try exact h.elim
  case loop x=>
   simp only[oks]at ho
   simp only[projK]at h
   cases hp:projS l L with
   | none=>rw[hp]at h;exact h.elim
   | some s=>
    rw[hp]at h
    obtain⟨m,hm⟩:=h
    have key:∀m a s w,Slots n a (encS l s)→iterW B m s w→∀(b:Frame) (k:List Item) (cs:List Frame),
      ∃e a' w',semQ n Q e a' w'∧Arrives P (lone (b.at a (.code x::.inLoop x::k)) cs w) b k cs e a' w':=by
     intro m
     induction m with
     | zero=>intro a s w _ h;exact h.elim
     | succ m ihm=>
      intro a s w hs h b k cs
      have hw:=ih1 (iterW B m) x _ _ a w (ho (iterW B m)).2 ((ho _).1 s w h) hs
      obtain⟨e,a₁,w₁,hq,harr⟩:=hw b (.inLoop x::k) cs
      cases e with
      | normal=>
       obtain⟨L1,hs1,hk⟩:=hq
       simp only[thenE,projK]at hk
       cases hp1:projS l L1 with
       | none=>rw[hp1]at hk;exact hk.elim
       | some s1=>
        rw[hp1]at hk
        obtain⟨e₂,a₂,w₂,hq₂,harr₂⟩:=ihm a₁ s1 w₁ (hs1.proj hp1) hk b k cs
        exact⟨e₂,a₂,w₂,hq₂,.of_steps (Steps.trans harr (.one step_inLoop)) harr₂⟩
      | exit id=>exact⟨.exit id,a₁,w₁,hq,.pass (x:=.inLoop x) rfl (fun _ _=>.inl (by simp)) harr⟩
      | goto l=>exact⟨.goto l,a₁,w₁,hq,.pass (x:=.inLoop x) rfl (fun _ _=>.inl (by simp)) harr⟩
      | ret=>exact⟨.ret,a₁,w₁,hq,.pass (x:=.inLoop x) rfl (fun _ _=>.inl (by simp)) harr⟩
      | panic ch=>exact hq.elim
      | outgrown=>exact hq.elim
    intro b k cs
    obtain⟨e,a',w',hq,harr⟩:=key m a s w (hs.proj hp) hm b k cs
    exact⟨e,a',w',hq,.of_steps (.one step_loop) harr⟩
def argEnv:Nat→List Value→Env
 | _,[]=>[]
 | i,v::r=>(i,v)::argEnv (i+1) r
theorem find_argEnv:∀(l:List Value) (i j:Nat) (v:Value),find (argEnv i l) j=some v→i≤j∧l[j-i]? =some v
 | [],_,_,_,h=>by cases h
 | u::r,i,j,v,h=>by
  simp only[argEnv,find]at h
  cases hb:Nat.beq i j with
  | true=>
   rw[hb]at h;simp only at h;cases h
   have e:i=j:=Nat.eq_of_beq_eq_true hb
   subst e
   simp
  | false=>
   rw[hb]at h;simp only at h
   obtain⟨h1,h2⟩:=find_argEnv r (i+1) j v h
   refine⟨by omega,?_⟩
   rw[show j-i=(j-(i+1))+1 by omega]
   simpa using h2
theorem Slots.start{n:Nat}(args:Array Value)(h:args.size≤n):
  Slots n { tmps:=args++Array.replicate (n-args.size) undef,defers:=[] } (argEnv 0 args.toList):=by
 refine⟨by simp;omega,rfl,fun i v hv=>?_⟩
 have:=(find_argEnv _ _ _ _ hv).2
 simp only[Nat.sub_zero,Array.getElem?_toList]at this
 have hi:i<args.size:=by
  rcases Nat.lt_or_ge i args.size with h | h
  ·exact h
  ·rw[Array.getElem?_eq_none h]at this;cases this
 exact⟨by omega,by rw[Array.getElem?_append_left hi];exact this⟩
def resL(P:Program):List ResultVar→List Cx→Env→(List Value→Prop)→World→Prop
 | [],_,_,k,_=>k []
 | .tmp t::r,_::cs,L,k,w=>match find L t with
  | some v=>resL P r cs L (fun vs=>k (v::vs)) w
  | none=>False
 | .cell t ty::r,c::cs,L,k,w=>match find L t with
  | some (.pointer (some p))=>∃x:c.T,(loadVar ty p).run P w=.ok (c.enc x) w∧resL P r cs L (fun vs=>k (c.enc x::vs)) w
  | _=>False
 | _::_,[],_,_,_=>False
def oneOf:List Value→Value
 | [v]=>v
 | vs=>.tuple vs.toArray
def resOf(tmps:Array Value):ResultVar→Sem Value
 | .tmp t=>pure (tmps.getD t undef)
 | .cell a t=>do loadVar t (←asAddr (tmps.getD a undef))
theorem resL_run{P:Program}{n:Nat}{a:Act}{L:Env}{w:World}(hs:Slots n a L):∀(rs:List ResultVar) (cs:List Cx) (k:List Value→Prop),resL P rs cs L k w→
  ∃vs,(rs.mapM (resOf a.tmps)).run P w=.ok vs w∧k vs
 | [],_,_,h=>⟨[],rfl,h⟩
 | _::_,[],_,h=>by rename_i x _ _;cases x <;> exact h.elim
 | .tmp t::r,c::cs,k,h=>by
  simp only[resL]at h
  cases hf:find L t with
  | none=>rw[hf]at h;exact h.elim
  | some v=>
   rw[hf]at h
   obtain⟨vs,h1,h2⟩:=resL_run hs r cs _ h
   refine⟨v::vs,?_,h2⟩
   have hv:a.tmps.getD t undef=v:=by rw[Array.getD_eq_getD_getElem?,(hs.vals t v hf).2];rfl
   rw[List.mapM_cons,run_bind]
   simp only[resOf,hv]
   have:((pure v:Sem Value)).run P w=.ok v w:=rfl
   rw[this]
   simp only
   rw[run_bind,h1]
   rfl
 | .cell t ty::r,c::cs,k,h=>by
  simp only[resL]at h
  cases hf:find L t with
  | none=>rw[hf]at h;exact h.elim
  | some v=>
   rw[hf]at h
   cases v <;> (try simp only at h) <;> try exact h.elim
   rename_i p
   cases p <;> simp only at h <;> try exact h.elim
   rename_i p
   obtain⟨x,hx,h⟩:=h
   obtain⟨vs,h1,h2⟩:=resL_run hs r cs _ h
   refine⟨c.enc x::vs,?_,h2⟩
   have hv:a.tmps.getD t undef=.pointer (some p):=by rw[Array.getD_eq_getD_getElem?,(hs.vals t _ hf).2];rfl
   rw[List.mapM_cons,run_bind]
   simp only[resOf,hv]
   have:((do loadVar ty (←asAddr (.pointer (some p)))):Sem Value).run P w=.ok (c.enc x) w:=hx
   rw[this]
   simp only
   rw[run_bind,h1]
   rfl
theorem results_run{P:Program}{n:Nat}{fn:Func}{a:Act}{L:Env}{w:World}(hs:Slots n a L){cs:List Cx}{k:List Value→Prop}
  (h:resL P fn.results.toList cs L k w):∃vs,(results fn a.tmps).run P w=.ok (oneOf vs) w∧k vs:=by
 obtain⟨vs,h1,h2⟩:=resL_run hs _ cs k h
 refine⟨vs,?_,h2⟩
 have e:results fn a.tmps=(do
   let vs ←fn.results.mapM (resOf a.tmps)
   pure (if h:vs.size=1 then vs[0] else .tuple vs)):=by
  unfold results
  congr 1
 rw[e,Array.mapM_eq_mapM_toList,run_bind]
 have e2:(List.toArray <$> fn.results.toList.mapM (resOf a.tmps):Sem (Array Value)).run P w=.ok vs.toArray w:=by
  rw[←bind_pure_comp,run_bind,h1]
  rfl
 rw[e2]
 show Result.ok _ w=_
 congr 1
 match vs with
 | []=>rfl
 | [v]=>rfl
 | _::_::_=>simp[oneOf]
def endQ(P:Program)(rs:List ResultVar)(cs:List Cx)(R:Value→World→Prop):Post
 | .normal,L,w=>resL P rs cs L (fun vs=>R (oneOf vs) w) w
 | .ret,L,w=>resL P rs cs L (fun vs=>R (oneOf vs) w) w
 | _,_,_=>False
theorem aaZ{P:Program}(hmix:P.follows .mixedOrders=true){f:FuncId}{fn:Func}{c:Code}(hf:P.funcs[f]? =some fn)(hb:fn.body=some c)(cs:List Cx){args:Array Value}{w:World}
  {R:Ending→World→Prop} (an:Ann) (n:Nat) (hn:fn.ntmps=n) (rs:List ResultVar) (hr:fn.results.toList=rs) (hsz:args.size≤n)
  (ho:oks P n c an (endQ P rs cs fun v w=>R (.returned v) w)) (h:lift P n c an (argEnv 0 args.toList) (endQ P rs cs fun v w=>R (.returned v) w) w):
  Calls P f args w R:=by
 subst hn hr
 refine calls_of_wp hf hb (wp_mono (lift_sound hmix an c _ _ _ w ho h (Slots.start args hsz)) fun e a w hq=>?_)
 cases e <;> simp only[semQ,endQ]at hq <;> try exact hq.elim
 case normal=>
  obtain⟨L,hs,hl⟩:=hq
  obtain⟨vs,h1,h2⟩:=results_run hs hl
  exact⟨hs.defers,_,h1,h2⟩
 case exit=>obtain⟨_,_,h⟩:=hq;exact h.elim
 case goto=>obtain⟨_,_,h⟩:=hq;exact h.elim
 case ret=>
  obtain⟨L,hs,hl⟩:=hq
  obtain⟨vs,h1,h2⟩:=results_run hs hl
  exact⟨hs.defers,_,h1,h2⟩
end Go.Cu
namespace Go.Cu
open Go
def bAnd(k:IntKind)(x y:Int):Int:=k.wrap ((BitVec.ofInt k.bits x &&& BitVec.ofInt k.bits y).toNat:Nat)
def bOr(k:IntKind)(x y:Int):Int:=k.wrap ((BitVec.ofInt k.bits x ||| BitVec.ofInt k.bits y).toNat:Nat)
def bXor(k:IntKind)(x y:Int):Int:=k.wrap ((BitVec.ofInt k.bits x ^^^ BitVec.ofInt k.bits y).toNat:Nat)
def shL(k:IntKind)(x y:Int):Int:=k.wrap (x*2 ^ (min y.toNat k.bits))
def shR(k:IntKind)(x y:Int):Int:=x.fdiv (2 ^ (min y.toNat k.bits))
def maxI(x y:Int):Int:=if y>x then y else x
def nilAny:Value→Sem Next
 | .pointer none | .nilIface | .nilFunc=>runtimePanic .nilDeref
 | .func (.method name) first captured=>
  match (first[0]? :Option Value) with
  | some .nilIface=>runtimePanic .nilDeref
  | some (.iface t w)=>do
   if (←nilAhead ((←program).types.size+Made.depth) t w name) !=some false then
    unsupported (.noEntry "op/nilCheck.the method's receiver behind this interface value is a nil pointer, or cannot be seen to be none, and the arguments act or may panic (ledger 612)")
   pure (.value (.func (.method name) first captured))
  | _=>pure (.value (.func (.method name) first captured))
 | x=>pure (.value x)
end Go.Cu
namespace Go.Proofs.YtbiilejgfihohaaGreat
open Go Go.Cu
theorem aDZ:Tryz.prog.follows .mixedOrders=true:=by kernel_rfl
noncomputable def gf8_Mul.body:Code:=(Tryz.f113.body).getD .skip
def gf8_Mul.j1(R:EPq)(k1:(Int×Int×Int×Unit)→WPq)(v1:Int)(v5:Int)(v6:Int)(w:World):Prop:=
 k1 ((shR .u8 v1 1),v5,v6,()) w
def gf8_Mul.j2(R:EPq)(k1:(Int×Int×Int×Unit)→WPq)(v1:Int)(v5:Int)(v6:Int)(w:World):Prop:=
 Cd ((bAnd .u64 (shL .u64 v5 1) 256) !=0) (gf8_Mul.j1 R k1 v1 (bXor .u64 (shL .u64 v5 1) 285) v6 w) (gf8_Mul.j1 R k1 v1 (shL .u64 v5 1) v6 w)
def gf8_Mul.b1(R:EPq)(k1:(Int×Int×Int×Unit)→WPq)(v1:Int)(v5:Int)(v6:Int)(w:World):Prop:=
 Cd (v1 !=0) (Cd ((bAnd .u8 v1 1) !=0) (gf8_Mul.j2 R k1 v1 v5 (bXor .u64 v6 v5) w) (gf8_Mul.j2 R k1 v1 v5 v6 w)) (R (.returned (.int .u8 (IntKind.wrap .u8 v6))) w)
def gf8_Mul.l1(R:EPq):(Int×Int×Int×Unit)→World→Prop:=arZ (fun k1 s w=>gf8_Mul.b1 R k1 s.1 s.2.1 s.2.2.1 w)
def gf8_Mul.M(R:EPq)(v0:Int)(v1:Int)(w:World):Prop:=
 gf8_Mul.l1 R (v1,(IntKind.wrap .u64 v0),0,()) w
noncomputable def gf8_Mul.ann(R:EPq):Ann:=
 .seq (.reg qN1) (.seq (.reg qN4) (.seq (.block (.loop [(1,qcB),(5,.at (.int .u64)),(6,.at (.int .u64))] (fun k1 s w=>gf8_Mul.b1 R k1 s.1 s.2.1 s.2.2.1 w) (fun k1=>.seq (.seq (.reg qN2) (.cond (.leaf) (.leaf))) (.join [(1,qcB),(5,.at (.int .u64)),(6,.at (.int .u64))] (fun s w=>gf8_Mul.j1 R k1 s.1 s.2.1 s.2.2.1 w) (.block (.join [(1,qcB),(5,.at (.int .u64)),(6,.at (.int .u64))] (fun s w=>gf8_Mul.j2 R k1 s.1 s.2.1 s.2.2.1 w) (.seq (.reg qN3) (.cond (.reg qN4) (.leaf))) (.seq (.reg qN3) (.seq (.reg qN3) (.cond (.reg qN3) (.leaf)))))) (.reg qN3))))) (.seq (.reg qN3) (.leaf))))
theorem gf8_Mul.run(R:EPq)(v0:Int)(v1:Int)(w:World)(h:gf8_Mul.M R v0 v1 w):Calls Tryz.prog 113 #[(.int .u8 v0),(.int .u8 v1)] w R:=by
 refine aaZ aDZ Tryz.func113 (c:=gf8_Mul.body) (by kernel_rfl) [.at (.int .u8)] (gf8_Mul.ann R) 28 Tryz.ntmps113 [.tmp 4] (by kernel_rfl) (Nat.le_of_ble_eq_true (by kernel_rfl)) ?_ ?_
 ·exact⟨tv,⟨tv,⟨(fun k1=>⟨fun s w=>mq,⟨⟨tv,⟨tv,tv⟩⟩,⟨fun s w=>mq,⟨fun s w=>mq,⟨tv,⟨tv,tv⟩⟩,⟨tv,⟨tv,⟨tv,tv⟩⟩⟩⟩,tv⟩⟩⟩),⟨tv,tv⟩⟩⟩⟩
 ·exact Eq.mp (show gf8_Mul.M R v0 v1 w=_ by kernel_rfl) h
noncomputable def gf8_Tables_Mul.body:Code:=(Tryz.f94.body).getD .skip
def gf8_Tables_Mul.j1(R:EPq)(v0:(Option Addr))(v1:Int)(v2:Int)(t16:Bool)(w:World):Prop:=
 Cd t16 (R (.returned (.int .u8 0)) w) (Pu Tryz.prog (amZ v0) (.one (.at .addr)) (fun(x1:Addr) w2=>
 Pu Tryz.prog (Instr.indexAt 193 (.pointer (some (Addr.add x1 510))) (.int .u8 v1)) (.one (.at .addr)) (fun(x3:Addr) w4=>
 RdS Tryz.prog (Same w.drew) (Instr.loadAt 3 (.pointer (some x3))) (.one (.at (.int .i64))) (fun(x5:Int) w6=>
 Pu Tryz.prog (amZ v0) (.one (.at .addr)) (fun(x7:Addr) w8=>
 Pu Tryz.prog (Instr.indexAt 193 (.pointer (some (Addr.add x7 510))) (.int .u8 v2)) (.one (.at .addr)) (fun(x9:Addr) w10=>
 RdS Tryz.prog (Same w.drew) (Instr.loadAt 3 (.pointer (some x9))) (.one (.at (.int .i64))) (fun(x11:Int) w12=>
 Pu Tryz.prog (amZ v0) (.one (.at .addr)) (fun(x13:Addr) w14=>
 Pu Tryz.prog (Instr.indexAt 192 (.pointer (some x13)) (.int .i64 (IntKind.wrap .i64 (x5+x11)))) (.one (.at .addr)) (fun(x15:Addr) w16=>
 RdS Tryz.prog (Same w.drew) (Instr.loadAt 5 (.pointer (some x15))) (.one (.at (.int .u8))) (fun(x17:Int) w18=>
 R (.returned (.int .u8 x17)) w18) w16) w14) w12) w10) w8) w6) w4) w2) w.drew)
def gf8_Tables_Mul.M(R:EPq)(v0:(Option Addr))(v1:Int)(v2:Int)(w:World):Prop:=
 Pu Tryz.prog (do eqGuard .eql 151 (.tmp 7) (.const (.pointer none)) (.pointer v0) (.pointer none);binOp .eql 151 (.pointer v0) (.pointer none)) (.one (.at .bool)) (fun(x19:Bool) w20=>
 Cd x19 (gf8_Tables_Mul.j1 R v0 v1 v2 true w20) (Cd (v1==0) (gf8_Tables_Mul.j1 R v0 v1 v2 true w20) (gf8_Tables_Mul.j1 R v0 v1 v2 (v2==0) w20))) w
noncomputable def gf8_Tables_Mul.ann(R:EPq):Ann:=
 .seq (.reg qN1) (.seq (.join [(0,qcP),(1,qcB),(2,qcB),(16,.at .bool)] (fun s w=>gf8_Tables_Mul.j1 R s.1 s.2.1 s.2.2.1 s.2.2.2.1 w) (.reg (.op 0 .now (.op 1 (.pu (.one (.at .bool))) (.op 2 .now (.split 2 (.skip 3 (.skip 4 (.op 5 .now (.op 6 .now (.skip 7 (.skip 8 (.op 9 .now (.done)))))))) (.op 3 .now (.op 4 .now (.op 5 .now (.op 6 .now (.split 6 (.skip 7 (.skip 8 (.op 9 .now (.done)))) (.op 7 .now (.op 8 .now (.op 9 .now (.done)))))))))))))) (.cond (.seq (.reg qN1) (.leaf)) (.leaf))) (.seq (.regQ (.op 0 .now (.op 1 .now (.op 2 .now (.op 3 qpA (.op 4 .now (.op 5 qpA (.op 6 (.rd (.one qcI)) (.op 7 .now (.op 8 .now (.op 9 qpA (.op 10 .now (.op 11 qpA (.op 12 (.rd (.one qcI)) (.op 13 .now (.op 14 qpA (.op 15 .now (.op 16 qpA (.op 17 qrB (.op 18 .now (.done))))))))))))))))))))) (.leaf)))
theorem gf8_Tables_Mul.run(R:EPq)(v0:(Option Addr))(v1:Int)(v2:Int)(w:World)(h:gf8_Tables_Mul.M R v0 v1 v2 w):Calls Tryz.prog 94 #[(.pointer v0),(.int .u8 v1),(.int .u8 v2)] w R:=by
 refine aaZ aDZ Tryz.func94 (c:=gf8_Tables_Mul.body) (by kernel_rfl) [.at (.int .u8)] (gf8_Tables_Mul.ann R) 35 Tryz.ntmps94 [.tmp 6] (by kernel_rfl) (Nat.le_of_ble_eq_true (by kernel_rfl)) ?_ ?_
 ·exact⟨tv,⟨⟨fun s w=>mq,tv,⟨⟨tv,tv⟩,tv⟩⟩,⟨(show Region.noSelect _=true by kernel_rfl),tv⟩⟩⟩
 ·exact Eq.mp (show gf8_Tables_Mul.M R v0 v1 v2 w=_ by kernel_rfl) h
noncomputable def gf8_Tables_Inv.body:Code:=(Tryz.f112.body).getD .skip
def gf8_Tables_Inv.M(R:EPq)(v0:(Option Addr))(v1:Int)(w:World):Prop:=
 Pu Tryz.prog (do eqGuard .eql 151 (.tmp 7) (.const (.pointer none)) (.pointer v0) (.pointer none);binOp .eql 151 (.pointer v0) (.pointer none)) (.one (.at .bool)) (fun(x1:Bool) w2=>
 Cd x1 (R (.returned (.tuple #[(.int .u8 0),(.int .i64 1)])) w2) (Cd (v1==0) (R (.returned (.tuple #[(.int .u8 0),(.int .i64 20)])) w2) (Pu Tryz.prog (amZ v0) (.one (.at .addr)) (fun(x3:Addr) w4=>
 Pu Tryz.prog (Instr.indexAt 193 (.pointer (some (Addr.add x3 510))) (.int .u8 v1)) (.one (.at .addr)) (fun(x5:Addr) w6=>
 RdS Tryz.prog (Same w2.drew) (Instr.loadAt 3 (.pointer (some x5))) (.one (.at (.int .i64))) (fun(x7:Int) w8=>
 Pu Tryz.prog (amZ v0) (.one (.at .addr)) (fun(x9:Addr) w10=>
 Pu Tryz.prog (Instr.indexAt 192 (.pointer (some x9)) (.int .i64 (IntKind.wrap .i64 (255-x7)))) (.one (.at .addr)) (fun(x11:Addr) w12=>
 RdS Tryz.prog (Same w2.drew) (Instr.loadAt 5 (.pointer (some x11))) (.one (.at (.int .u8))) (fun(x13:Int) w14=>
 R (.returned (.tuple #[(.int .u8 x13),(.int .i64 0)])) w14) w12) w10) w8) w6) w4) w2.drew))) w
noncomputable def gf8_Tables_Inv.ann(R:EPq):Ann:=
 .seq (.reg qN2) (.seq (.block (.seq (.reg (.op 0 .now (.op 1 (.pu (.one (.at .bool))) (.op 2 .now (.done))))) (.cond (.seq (.reg qN2) (.leaf)) (.seq (.reg qN3) (.cond (.seq (.reg qN2) (.leaf)) (.leaf)))))) (.seq (.regQ (.op 0 .now (.op 1 .now (.op 2 .now (.op 3 qpA (.op 4 .now (.op 5 qpA (.op 6 (.rd (.one qcI)) (.op 7 .now (.op 8 qpA (.op 9 .now (.op 10 qpA (.op 11 qrB (.op 12 .now (.op 13 .now (.done)))))))))))))))) (.leaf)))
theorem gf8_Tables_Inv.run(R:EPq)(v0:(Option Addr))(v1:Int)(w:World)(h:gf8_Tables_Inv.M R v0 v1 w):Calls Tryz.prog 112 #[(.pointer v0),(.int .u8 v1)] w R:=by
 refine aaZ aDZ Tryz.func112 (c:=gf8_Tables_Inv.body) (by kernel_rfl) [.at (.int .u8),.at (.int .i64)] (gf8_Tables_Inv.ann R) 24 Tryz.ntmps112 [.tmp 4,.tmp 5] (by kernel_rfl) (Nat.le_of_ble_eq_true (by kernel_rfl)) ?_ ?_
 ·exact⟨tv,⟨⟨tv,⟨⟨tv,tv⟩,⟨tv,⟨⟨tv,tv⟩,tv⟩⟩⟩⟩,⟨(show Region.noSelect _=true by kernel_rfl),tv⟩⟩⟩
 ·exact Eq.mp (show gf8_Tables_Inv.M R v0 v1 w=_ by kernel_rfl) h
noncomputable def gf8_New.body:Code:=(Tryz.f93.body).getD .skip
def gf8_New.j1(R:EPq)(k1:((Option Addr)×Int×Int×Unit)→WPq)(v1:(Option Addr))(v2:Int)(v3:Int)(t6:Int)(w:World):Prop:=
 Pu Tryz.prog (amZ v1) (.one (.at .addr)) (fun(x3:Addr) w4=>
 Pu Tryz.prog (Instr.indexAt 193 (.pointer (some (Addr.add x3 510))) (.int .u8 v2)) (.one (.at .addr)) (fun(x5:Addr) w6=>
 Wu Tryz.prog (Instr.storeAt 3 (.pointer (some x5)) (.int .i64 v3)) (fun w7=>
 Cl Tryz.prog 113 #[(.int .u8 v2),(.int .u8 2)] (.one (.at (.int .u8))) (fun(x8:Int) w9=>
 k1 (v1,x8,(IntKind.wrap .i64 (t6+1)),()) w9) w7) w6) w4) w
def gf8_New.b1(R:EPq)(k1:((Option Addr)×Int×Int×Unit)→WPq)(v1:(Option Addr))(v2:Int)(t6:Int)(w:World):Prop:=
 Cd (decide (t6<255)) (Held w.drew (fun S10=>Pu Tryz.prog (amZ v1) (.one (.at .addr)) (fun(x11:Addr) w12=>
 Pu Tryz.prog (Instr.indexAt 192 (.pointer (some x11)) (.int .i64 t6)) (.one (.at .addr)) (fun(x13:Addr) w14=>
 Pu Tryz.prog (amZ v1) (.one (.at .addr)) (fun(x15:Addr) w16=>
 Wu Tryz.prog (Instr.storeAt 5 (.pointer (some x13)) (.int .u8 v2)) (fun w17=>
 S10 w17∧(Pu Tryz.prog (Instr.indexAt 192 (.pointer (some x15)) (.int .i64 (IntKind.wrap .i64 (t6+255)))) (.one (.at .addr)) (fun(x18:Addr) w19=>
 Wu Tryz.prog (Instr.storeAt 5 (.pointer (some x18)) (.int .u8 v2)) (fun w20=>
 S10 w20∧(gf8_New.j1 R k1 v1 v2 t6 t6 w20)) w19) w17)) w16) w14) w12) w.drew)) (R (.returned (.pointer v1)) w)
def gf8_New.l1(R:EPq):((Option Addr)×Int×Int×Unit)→World→Prop:=arZ (fun k1 s w=>gf8_New.b1 R k1 s.1 s.2.1 s.2.2.1 w)
def gf8_New.M(R:EPq)(w:World):Prop:=
 Wr Tryz.prog (Instr.box 195 (.agg #[(.int .u8 0),(.int .u8 0),(.int .u8 0),(.int .u8 0),(.int .u8 0),(.int .u8 0),(.int .u8 0),(.int .u8 0),(.int .u8 0),(.int .u8 0),(.int .u8 0),(.int .u8 0),(.int .u8 0),(.int .u8 0),(.int .u8 0),(.int .u8 0),(.int .u8 0),(.int .u8 0),(.int .u8 0),(.int .u8 0),(.int .u8 0),(.int .u8 0),(.int .u8 0),(.int .u8 0),(.int .u8 0),(.int .u8 0),(.int .u8 0),(.int .u8 0),(.int .u8 0),(.int .u8 0),(.int .u8 0),(.int .u8 0),(.int .u8 0),(.int .u8 0),(.int .u8 0),(.int .u8 0),(.int .u8 0),(.int .u8 0),(.int .u8 0),(.int .u8 0),(.int .u8 0),(.int .u8 0),(.int .u8 0),(.int .u8 0),(.int .u8 0),(.int .u8 0),(.int .u8 0),(.int .u8 0),(.int .u8 0),(.int .u8 0),(.int .u8 0),(.int .u8 0),(.int .u8 0),(.int .u8 0),(.int .u8 0),(.int .u8 0),(.int .u8 0),(.int .u8 0),(.int .u8 0),(.int .u8 0),(.int .u8 0),(.int .u8 0),(.int .u8 0),(.int .u8 0),(.int .u8 0),(.int .u8 0),(.int .u8 0),(.int .u8 0),(.int .u8 0),(.int .u8 0),(.int .u8 0),(.int .u8 0),(.int .u8 0),(.int .u8 0),(.int .u8 0),(.int .u8 0),(.int .u8 0),(.int .u8 0),(.int .u8 0),(.int .u8 0),(.int .u8 0),(.int .u8 0),(.int .u8 0),(.int .u8 0),(.int .u8 0),(.int .u8 0),(.int .u8 0),(.int .u8 0),(.int .u8 0),(.int .u8 0),(.int .u8 0),(.int .u8 0),(.int .u8 0),(.int .u8 0),(.int .u8 0),(.int .u8 0),(.int .u8 0),(.int .u8 0),(.int .u8 0),(.int .u8 0),(.int .u8 0),(.int .u8 0),(.int .u8 0),(.int .u8 0),(.int .u8 0),(.int .u8 0),(.int .u8 0),(.int .u8 0),(.int .u8 0),(.int .u8 0),(.int .u8 0),(.int .u8 0),(.int .u8 0),(.int .u8 0),(.int .u8 0),(.int .u8 0),(.int .u8 0),(.int .u8 0),(.int .u8 0),(.int .u8 0),(.int .u8 0),(.int .u8 0),(.int .u8 0),(.int .u8 0),(.int .u8 0),(.int .u8 0),(.int .u8 0),(.int .u8 0),(.int .u8 0),(.int .u8 0),(.int .u8 0),(.int .u8 0),(.int .u8 0),(.int .u8 0),(.int .u8 0),(.int .u8 0),(.int .u8 0),(.int .u8 0),(.int .u8 0),(.int .u8 0),(.int .u8 0),(.int .u8 0),(.int .u8 0),(.int .u8 0),(.int .u8 0),(.int .u8 0),(.int .u8 0),(.int .u8 0),(.int .u8 0),(.int .u8 0),(.int .u8 0),(.int .u8 0),(.int .u8 0),(.int .u8 0),(.int .u8 0),(.int .u8 0),(.int .u8 0),(.int .u8 0),(.int .u8 0),(.int .u8 0),(.int .u8 0),(.int .u8 0),(.int .u8 0),(.int .u8 0),(.int .u8 0),(.int .u8 0),(.int .u8 0),(.int .u8 0),(.int .u8 0),(.int .u8 0),(.int .u8 0),(.int .u8 0),(.int .u8 0),(.int .u8 0),(.int .u8 0),(.int .u8 0),(.int .u8 0),(.int .u8 0),(.int .u8 0),(.int .u8 0),(.int .u8 0),(.int .u8 0),(.int .u8 0),(.int .u8 0),(.int .u8 0),(.int .u8 0),(.int .u8 0),(.int .u8 0),(.int .u8 0),(.int .u8 0),(.int .u8 0),(.int .u8 0),(.int .u8 0),(.int .u8 0),(.int .u8 0),(.int .u8 0),(.int .u8 0),(.int .u8 0),(.int .u8 0),(.int .u8 0),(.int .u8 0),(.int .u8 0),(.int .u8 0),(.int .u8 0),(.int .u8 0),(.int .u8 0),(.int .u8 0),(.int .u8 0),(.int .u8 0),(.int .u8 0),(.int .u8 0),(.int .u8 0),(.int .u8 0),(.int .u8 0),(.int .u8 0),(.int .u8 0),(.int .u8 0),(.int .u8 0),(.int .u8 0),(.int .u8 0),(.int .u8 0),(.int .u8 0),(.int .u8 0),(.int .u8 0),(.int .u8 0),(.int .u8 0),(.int .u8 0),(.int .u8 0),(.int .u8 0),(.int .u8 0),(.int .u8 0),(.int .u8 0),(.int .u8 0),(.int .u8 0),(.int .u8 0),(.int .u8 0),(.int .u8 0),(.int .u8 0),(.int .u8 0),(.int .u8 0),(.int .u8 0),(.int .u8 0),(.int .u8 0),(.int .u8 0),(.int .u8 0),(.int .u8 0),(.int .u8 0),(.int .u8 0),(.int .u8 0),(.int .u8 0),(.int .u8 0),(.int .u8 0),(.int .u8 0),(.int .u8 0),(.int .u8 0),(.int .u8 0),(.int .u8 0),(.int .u8 0),(.int .u8 0),(.int .u8 0),(.int .u8 0),(.int .u8 0),(.int .u8 0),(.int .u8 0),(.int .u8 0),(.int .u8 0),(.int .u8 0),(.int .u8 0),(.int .u8 0),(.int .u8 0),(.int .u8 0),(.int .u8 0),(.int .u8 0),(.int .u8 0),(.int .u8 0),(.int .u8 0),(.int .u8 0),(.int .u8 0),(.int .u8 0),(.int .u8 0),(.int .u8 0),(.int .u8 0),(.int .u8 0),(.int .u8 0),(.int .u8 0),(.int .u8 0),(.int .u8 0),(.int .u8 0),(.int .u8 0),(.int .u8 0),(.int .u8 0),(.int .u8 0),(.int .u8 0),(.int .u8 0),(.int .u8 0),(.int .u8 0),(.int .u8 0),(.int .u8 0),(.int .u8 0),(.int .u8 0),(.int .u8 0),(.int .u8 0),(.int .u8 0),(.int .u8 0),(.int .u8 0),(.int .u8 0),(.int .u8 0),(.int .u8 0),(.int .u8 0),(.int .u8 0),(.int .u8 0),(.int .u8 0),(.int .u8 0),(.int .u8 0),(.int .u8 0),(.int .u8 0),(.int .u8 0),(.int .u8 0),(.int .u8 0),(.int .u8 0),(.int .u8 0),(.int .u8 0),(.int .u8 0),(.int .u8 0),(.int .u8 0),(.int .u8 0),(.int .u8 0),(.int .u8 0),(.int .u8 0),(.int .u8 0),(.int .u8 0),(.int .u8 0),(.int .u8 0),(.int .u8 0),(.int .u8 0),(.int .u8 0),(.int .u8 0),(.int .u8 0),(.int .u8 0),(.int .u8 0),(.int .u8 0),(.int .u8 0),(.int .u8 0),(.int .u8 0),(.int .u8 0),(.int .u8 0),(.int .u8 0),(.int .u8 0),(.int .u8 0),(.int .u8 0),(.int .u8 0),(.int .u8 0),(.int .u8 0),(.int .u8 0),(.int .u8 0),(.int .u8 0),(.int .u8 0),(.int .u8 0),(.int .u8 0),(.int .u8 0),(.int .u8 0),(.int .u8 0),(.int .u8 0),(.int .u8 0),(.int .u8 0),(.int .u8 0),(.int .u8 0),(.int .u8 0),(.int .u8 0),(.int .u8 0),(.int .u8 0),(.int .u8 0),(.int .u8 0),(.int .u8 0),(.int .u8 0),(.int .u8 0),(.int .u8 0),(.int .u8 0),(.int .u8 0),(.int .u8 0),(.int .u8 0),(.int .u8 0),(.int .u8 0),(.int .u8 0),(.int .u8 0),(.int .u8 0),(.int .u8 0),(.int .u8 0),(.int .u8 0),(.int .u8 0),(.int .u8 0),(.int .u8 0),(.int .u8 0),(.int .u8 0),(.int .u8 0),(.int .u8 0),(.int .u8 0),(.int .u8 0),(.int .u8 0),(.int .u8 0),(.int .u8 0),(.int .u8 0),(.int .u8 0),(.int .u8 0),(.int .u8 0),(.int .u8 0),(.int .u8 0),(.int .u8 0),(.int .u8 0),(.int .u8 0),(.int .u8 0),(.int .u8 0),(.int .u8 0),(.int .u8 0),(.int .u8 0),(.int .u8 0),(.int .u8 0),(.int .u8 0),(.int .u8 0),(.int .u8 0),(.int .u8 0),(.int .u8 0),(.int .u8 0),(.int .u8 0),(.int .u8 0),(.int .u8 0),(.int .u8 0),(.int .u8 0),(.int .u8 0),(.int .u8 0),(.int .u8 0),(.int .u8 0),(.int .u8 0),(.int .u8 0),(.int .u8 0),(.int .u8 0),(.int .u8 0),(.int .u8 0),(.int .u8 0),(.int .u8 0),(.int .u8 0),(.int .u8 0),(.int .u8 0),(.int .u8 0),(.int .u8 0),(.int .u8 0),(.int .u8 0),(.int .u8 0),(.int .u8 0),(.int .u8 0),(.int .u8 0),(.int .u8 0),(.int .u8 0),(.int .u8 0),(.int .u8 0),(.int .u8 0),(.int .u8 0),(.int .u8 0),(.int .u8 0),(.int .u8 0),(.int .u8 0),(.int .u8 0),(.int .u8 0),(.int .u8 0),(.int .u8 0),(.int .u8 0),(.int .u8 0),(.int .u8 0),(.int .u8 0),(.int .u8 0),(.int .u8 0),(.int .u8 0),(.int .u8 0),(.int .u8 0),(.int .u8 0),(.int .u8 0),(.int .u8 0),(.int .u8 0),(.int .u8 0),(.int .u8 0),(.int .u8 0),(.int .u8 0),(.int .u8 0),(.int .u8 0),(.int .u8 0),(.int .u8 0),(.int .u8 0),(.int .u8 0),(.int .u8 0),(.int .u8 0),(.int .u8 0),(.int .u8 0),(.int .u8 0),(.int .u8 0),(.int .u8 0),(.int .u8 0),(.int .u8 0),(.int .u8 0),(.int .u8 0),(.int .u8 0),(.int .u8 0),(.int .u8 0),(.int .u8 0),(.int .u8 0),(.int .u8 0),(.int .u8 0),(.int .u8 0),(.int .u8 0),(.int .u8 0),(.int .u8 0),(.int .i64 0),(.int .i64 0),(.int .i64 0),(.int .i64 0),(.int .i64 0),(.int .i64 0),(.int .i64 0),(.int .i64 0),(.int .i64 0),(.int .i64 0),(.int .i64 0),(.int .i64 0),(.int .i64 0),(.int .i64 0),(.int .i64 0),(.int .i64 0),(.int .i64 0),(.int .i64 0),(.int .i64 0),(.int .i64 0),(.int .i64 0),(.int .i64 0),(.int .i64 0),(.int .i64 0),(.int .i64 0),(.int .i64 0),(.int .i64 0),(.int .i64 0),(.int .i64 0),(.int .i64 0),(.int .i64 0),(.int .i64 0),(.int .i64 0),(.int .i64 0),(.int .i64 0),(.int .i64 0),(.int .i64 0),(.int .i64 0),(.int .i64 0),(.int .i64 0),(.int .i64 0),(.int .i64 0),(.int .i64 0),(.int .i64 0),(.int .i64 0),(.int .i64 0),(.int .i64 0),(.int .i64 0),(.int .i64 0),(.int .i64 0),(.int .i64 0),(.int .i64 0),(.int .i64 0),(.int .i64 0),(.int .i64 0),(.int .i64 0),(.int .i64 0),(.int .i64 0),(.int .i64 0),(.int .i64 0),(.int .i64 0),(.int .i64 0),(.int .i64 0),(.int .i64 0),(.int .i64 0),(.int .i64 0),(.int .i64 0),(.int .i64 0),(.int .i64 0),(.int .i64 0),(.int .i64 0),(.int .i64 0),(.int .i64 0),(.int .i64 0),(.int .i64 0),(.int .i64 0),(.int .i64 0),(.int .i64 0),(.int .i64 0),(.int .i64 0),(.int .i64 0),(.int .i64 0),(.int .i64 0),(.int .i64 0),(.int .i64 0),(.int .i64 0),(.int .i64 0),(.int .i64 0),(.int .i64 0),(.int .i64 0),(.int .i64 0),(.int .i64 0),(.int .i64 0),(.int .i64 0),(.int .i64 0),(.int .i64 0),(.int .i64 0),(.int .i64 0),(.int .i64 0),(.int .i64 0),(.int .i64 0),(.int .i64 0),(.int .i64 0),(.int .i64 0),(.int .i64 0),(.int .i64 0),(.int .i64 0),(.int .i64 0),(.int .i64 0),(.int .i64 0),(.int .i64 0),(.int .i64 0),(.int .i64 0),(.int .i64 0),(.int .i64 0),(.int .i64 0),(.int .i64 0),(.int .i64 0),(.int .i64 0),(.int .i64 0),(.int .i64 0),(.int .i64 0),(.int .i64 0),(.int .i64 0),(.int .i64 0),(.int .i64 0),(.int .i64 0),(.int .i64 0),(.int .i64 0),(.int .i64 0),(.int .i64 0),(.int .i64 0),(.int .i64 0),(.int .i64 0),(.int .i64 0),(.int .i64 0),(.int .i64 0),(.int .i64 0),(.int .i64 0),(.int .i64 0),(.int .i64 0),(.int .i64 0),(.int .i64 0),(.int .i64 0),(.int .i64 0),(.int .i64 0),(.int .i64 0),(.int .i64 0),(.int .i64 0),(.int .i64 0),(.int .i64 0),(.int .i64 0),(.int .i64 0),(.int .i64 0),(.int .i64 0),(.int .i64 0),(.int .i64 0),(.int .i64 0),(.int .i64 0),(.int .i64 0),(.int .i64 0),(.int .i64 0),(.int .i64 0),(.int .i64 0),(.int .i64 0),(.int .i64 0),(.int .i64 0),(.int .i64 0),(.int .i64 0),(.int .i64 0),(.int .i64 0),(.int .i64 0),(.int .i64 0),(.int .i64 0),(.int .i64 0),(.int .i64 0),(.int .i64 0),(.int .i64 0),(.int .i64 0),(.int .i64 0),(.int .i64 0),(.int .i64 0),(.int .i64 0),(.int .i64 0),(.int .i64 0),(.int .i64 0),(.int .i64 0),(.int .i64 0),(.int .i64 0),(.int .i64 0),(.int .i64 0),(.int .i64 0),(.int .i64 0),(.int .i64 0),(.int .i64 0),(.int .i64 0),(.int .i64 0),(.int .i64 0),(.int .i64 0),(.int .i64 0),(.int .i64 0),(.int .i64 0),(.int .i64 0),(.int .i64 0),(.int .i64 0),(.int .i64 0),(.int .i64 0),(.int .i64 0),(.int .i64 0),(.int .i64 0),(.int .i64 0),(.int .i64 0),(.int .i64 0),(.int .i64 0),(.int .i64 0),(.int .i64 0),(.int .i64 0),(.int .i64 0),(.int .i64 0),(.int .i64 0),(.int .i64 0),(.int .i64 0),(.int .i64 0),(.int .i64 0),(.int .i64 0),(.int .i64 0),(.int .i64 0),(.int .i64 0),(.int .i64 0),(.int .i64 0),(.int .i64 0),(.int .i64 0),(.int .i64 0),(.int .i64 0),(.int .i64 0),(.int .i64 0),(.int .i64 0),(.int .i64 0),(.int .i64 0),(.int .i64 0),(.int .i64 0),(.int .i64 0),(.int .i64 0),(.int .i64 0),(.int .i64 0),(.int .i64 0),(.int .i64 0),(.int .i64 0),(.int .i64 0),(.int .i64 0),(.int .i64 0),(.int .i64 0),(.int .i64 0),(.int .i64 0),(.int .i64 0),(.int .i64 0)])) (.one (.at .addr)) (fun(x1:Addr) w2=>
 gf8_New.l1 R ((some x1),1,0,()) w2) w
noncomputable def gf8_New.ann(R:EPq):Ann:=
 .seq (.reg qN1) (.seq (.reg (.op 0 .now (.op 1 (.wr (.one (.at .addr))) (.op 2 .now (.done))))) (.seq (.reg qN1) (.seq (.seq (.reg qN1) (.block (.loop [(1,qcP),(2,qcB),(6,qcI)] (fun k1 s w=>gf8_New.b1 R k1 s.1 s.2.1 s.2.2.1 w) (fun k1=>.seq (.reg qN1) (.seq (.cond (.leaf) (.leaf)) (.seq (.block (.seq (.reg qN2) (.join [(1,qcP),(2,qcB),(3,qcI),(6,qcI)] (fun s w=>gf8_New.j1 R k1 s.1 s.2.1 s.2.2.1 s.2.2.2.1 w) (.regD (.op 0 .now (.op 1 .now (.op 2 .now (.op 3 .now (.op 4 .now (.op 5 .now (.op 6 .now (.op 7 qpA (.op 8 .now (.op 9 qpA (.op 11 qpA (.op 12 .now (.op 10 .wu (.op 13 qpA (.op 14 .wu (.done))))))))))))))))) (.seq (.reg (.op 0 .now (.op 1 .now (.op 2 .now (.op 3 qpA (.op 4 .now (.op 5 qpA (.op 6 .wu (.done))))))))) (.reg (.op 0 .now (.op 1 (.cl (.one qcB)) (.op 2 .now (.done))))))))) (.reg qN2))))))) (.seq (.reg qN2) (.leaf)))))
theorem gf8_New.run(R:EPq)(w:World)(h:gf8_New.M R w):Calls Tryz.prog 93 #[] w R:=by
 refine aaZ aDZ Tryz.func93 (c:=gf8_New.body) (by kernel_rfl) [.at .ptr] (gf8_New.ann R) 32 Tryz.ntmps93 [.tmp 0] (by kernel_rfl) (Nat.le_of_ble_eq_true (by kernel_rfl)) ?_ ?_
 ·exact⟨tv,⟨tv,⟨tv,⟨⟨tv,(fun k1=>⟨fun s w=>mq,⟨tv,⟨⟨tv,tv⟩,⟨⟨tv,⟨fun s w=>mq,(show Region.noSelect _=true by kernel_rfl),⟨tv,tv⟩⟩⟩,tv⟩⟩⟩⟩)⟩,⟨tv,tv⟩⟩⟩⟩⟩
 ·exact Eq.mp (show gf8_New.M R w=_ by kernel_rfl) h
noncomputable def matrix_reduce.body:Code:=(Tryz.f116.body).getD .skip
def matrix_reduce.j1(R:EPq)(k1:(Sl×(Option Addr)×Sl×Int×Int×Int×Int×Unit)→WPq)(v0:Sl)(v6:(Option Addr))(v7:Sl)(v8:Int)(v9:Int)(t21:Int)(t22:Int)(w:World):Prop:=
 k1 (v0,v6,v7,v8,v9,t21,(IntKind.wrap .i64 (t22+1)),()) w
def matrix_reduce.j3(R:EPq)(k1:(Sl×(Option Addr)×Sl×Int×Int×Int×Int×Unit)→WPq)(k2:(Sl×(Option Addr)×Sl×Int×Int×Int×Int×Int×Int×Sl×Int×Int×Unit)→WPq)(v0:Sl)(v6:(Option Addr))(v7:Sl)(v8:Int)(v9:Int)(v10:Int)(v12:Int)(t21:Int)(t22:Int)(t81:Sl)(t82:Int)(t83:Int)(w:World):Prop:=
 k2 (v0,v6,v7,v8,v9,v10,v12,t21,t22,t81,t82,(IntKind.wrap .i64 (t83+1)),()) w
def matrix_reduce.j4(R:EPq)(k1:(Sl×(Option Addr)×Sl×Int×Int×Int×Int×Unit)→WPq)(k3:(Sl×(Option Addr)×Sl×Int×Int×Int×Int×Int×Int×Int×Unit)→WPq)(v0:Sl)(v6:(Option Addr))(v7:Sl)(v8:Int)(v9:Int)(v10:Int)(t21:Int)(t22:Int)(t100:Int)(t101:Int)(w:World):Prop:=
 k3 (v0,v6,v7,v8,v9,v10,t21,t22,t100,(IntKind.wrap .i64 (t101+1)),()) w
def matrix_reduce.j6(R:EPq)(k1:(Sl×(Option Addr)×Sl×Int×Int×Int×Int×Unit)→WPq)(k3:(Sl×(Option Addr)×Sl×Int×Int×Int×Int×Int×Int×Int×Unit)→WPq)(k4:(Sl×(Option Addr)×Sl×Int×Int×Int×Int×Int×Int×Int×Int×Int×Sl×Int×Int×Unit)→WPq)(v0:Sl)(v6:(Option Addr))(v7:Sl)(v8:Int)(v9:Int)(v10:Int)(v16:Int)(v17:Int)(t21:Int)(t22:Int)(t100:Int)(t101:Int)(t121:Sl)(t122:Int)(t123:Int)(w:World):Prop:=
 k4 (v0,v6,v7,v8,v9,v10,v16,v17,t21,t22,t100,t101,t121,t122,(IntKind.wrap .i64 (t123+1)),()) w
def matrix_reduce.b4(R:EPq)(k1:(Sl×(Option Addr)×Sl×Int×Int×Int×Int×Unit)→WPq)(k3:(Sl×(Option Addr)×Sl×Int×Int×Int×Int×Int×Int×Int×Unit)→WPq)(k4:(Sl×(Option Addr)×Sl×Int×Int×Int×Int×Int×Int×Int×Int×Int×Sl×Int×Int×Unit)→WPq)(v0:Sl)(v6:(Option Addr))(v7:Sl)(v8:Int)(v9:Int)(v10:Int)(v16:Int)(v17:Int)(t21:Int)(t22:Int)(t100:Int)(t101:Int)(t121:Sl)(t122:Int)(t123:Int)(w:World):Prop:=
 Cd (decide (t123<t122)) (Pu Tryz.prog (Instr.indexAt 24 (.slice t121.base t121.len t121.cap) (.int .i64 t123)) (.one (.at .addr)) (fun(x53:Addr) w54=>
 Rd Tryz.prog (Instr.loadAt 5 (.pointer (some x53))) (.one (.at (.int .u8))) (fun(x55:Int) w56=>
 Held w56.drew (fun S57=>Pu Tryz.prog (Instr.indexAt 30 (.slice v0.base v0.len v0.cap) (.int .i64 v16)) (.one (.at .addr)) (fun(x58:Addr) w59=>
 RdS Tryz.prog S57 (Instr.loadAt 24 (.pointer (some x58))) (.one (.at .sl)) (fun(x60:Sl) w61=>
 Pu Tryz.prog (Instr.indexAt 24 (.slice x60.base x60.len x60.cap) (.int .i64 t123)) (.one (.at .addr)) (fun(x62:Addr) w63=>
 (Wr Tryz.prog (Instr.loadAt 5 (.pointer (some x62))) (.one (.at (.int .u8))) (fun(x64:Int) w65=>
 S57 w65∧(Cl Tryz.prog 94 #[(.pointer v6),(.int .u8 v17),(.int .u8 x55)] (.one (.at (.int .u8))) (fun(x66:Int) w67=>
 S57 w67∧(Pu Tryz.prog (Instr.indexAt 24 (.slice x60.base x60.len x60.cap) (.int .i64 t123)) (.one (.at .addr)) (fun(x68:Addr) w69=>
 Wu Tryz.prog (Instr.storeAt 5 (.pointer (some x68)) (.int .u8 (bXor .u8 x64 x66))) (fun w70=>
 S57 w70∧(matrix_reduce.j6 R k1 k3 k4 v0 v6 v7 v8 v9 v10 v16 v17 t21 t22 t100 t101 t121 t122 t123 w70)) w69) w67)) w65)) w63)∧(Cl Tryz.prog 94 #[(.pointer v6),(.int .u8 v17),(.int .u8 x55)] (.one (.at (.int .u8))) (fun(x71:Int) w72=>
 S57 w72∧(Wr Tryz.prog (Instr.loadAt 5 (.pointer (some x62))) (.one (.at (.int .u8))) (fun(x73:Int) w74=>
 S57 w74∧(Pu Tryz.prog (Instr.indexAt 24 (.slice x60.base x60.len x60.cap) (.int .i64 t123)) (.one (.at .addr)) (fun(x75:Addr) w76=>
 Wu Tryz.prog (Instr.storeAt 5 (.pointer (some x75)) (.int .u8 (bXor .u8 x73 x71))) (fun w77=>
 S57 w77∧(matrix_reduce.j6 R k1 k3 k4 v0 v6 v7 v8 v9 v10 v16 v17 t21 t22 t100 t101 t121 t122 t123 w77)) w76) w74)) w72)) w63)) w61) w59) w56.drew)) w54) w) (matrix_reduce.j4 R k1 k3 v0 v6 v7 v8 v9 v10 t21 t22 t100 t101 w)
def matrix_reduce.l4(R:EPq)(k1:(Sl×(Option Addr)×Sl×Int×Int×Int×Int×Unit)→WPq)(k3:(Sl×(Option Addr)×Sl×Int×Int×Int×Int×Int×Int×Int×Unit)→WPq):(Sl×(Option Addr)×Sl×Int×Int×Int×Int×Int×Int×Int×Int×Int×Sl×Int×Int×Unit)→World→Prop:=arZ (fun k4 s w=>matrix_reduce.b4 R k1 k3 k4 s.1 s.2.1 s.2.2.1 s.2.2.2.1 s.2.2.2.2.1 s.2.2.2.2.2.1 s.2.2.2.2.2.2.1 s.2.2.2.2.2.2.2.1 s.2.2.2.2.2.2.2.2.1 s.2.2.2.2.2.2.2.2.2.1 s.2.2.2.2.2.2.2.2.2.2.1 s.2.2.2.2.2.2.2.2.2.2.2.1 s.2.2.2.2.2.2.2.2.2.2.2.2.1 s.2.2.2.2.2.2.2.2.2.2.2.2.2.1 s.2.2.2.2.2.2.2.2.2.2.2.2.2.2.1 w)
def matrix_reduce.j5(R:EPq)(k1:(Sl×(Option Addr)×Sl×Int×Int×Int×Int×Unit)→WPq)(k3:(Sl×(Option Addr)×Sl×Int×Int×Int×Int×Int×Int×Int×Unit)→WPq)(v0:Sl)(v6:(Option Addr))(v7:Sl)(v8:Int)(v9:Int)(v10:Int)(v16:Int)(v17:Int)(t21:Int)(t22:Int)(t100:Int)(t101:Int)(t117:Bool)(w:World):Prop:=
 Cd t117 (matrix_reduce.j4 R k1 k3 v0 v6 v7 v8 v9 v10 t21 t22 t100 t101 w) (Pu Tryz.prog (Instr.indexAt 30 (.slice v0.base v0.len v0.cap) (.int .i64 v9)) (.one (.at .addr)) (fun(x49:Addr) w50=>
 Rd Tryz.prog (Instr.loadAt 24 (.pointer (some x49))) (.one (.at .sl)) (fun(x51:Sl) w52=>
 matrix_reduce.l4 R k1 k3 (v0,v6,v7,v8,v9,v10,v16,v17,t21,t22,t100,t101,x51,((x51.len:Nat):Int),0,()) w52) w50) w)
def matrix_reduce.b3(R:EPq)(k1:(Sl×(Option Addr)×Sl×Int×Int×Int×Int×Unit)→WPq)(k3:(Sl×(Option Addr)×Sl×Int×Int×Int×Int×Int×Int×Int×Unit)→WPq)(v0:Sl)(v6:(Option Addr))(v7:Sl)(v8:Int)(v9:Int)(v10:Int)(t21:Int)(t22:Int)(t100:Int)(t101:Int)(w:World):Prop:=
 Cd (decide (t101<t100)) (Pu Tryz.prog (Instr.indexAt 30 (.slice v0.base v0.len v0.cap) (.int .i64 t101)) (.one (.at .addr)) (fun(x41:Addr) w42=>
 Rd Tryz.prog (Instr.loadAt 24 (.pointer (some x41))) (.one (.at .sl)) (fun(x43:Sl) w44=>
 Pu Tryz.prog (Instr.indexAt 24 (.slice x43.base x43.len x43.cap) (.int .i64 v10)) (.one (.at .addr)) (fun(x45:Addr) w46=>
 Rd Tryz.prog (Instr.loadAt 5 (.pointer (some x45))) (.one (.at (.int .u8))) (fun(x47:Int) w48=>
 Cd (t101==v9) (matrix_reduce.j5 R k1 k3 v0 v6 v7 v8 v9 v10 t101 x47 t21 t22 t100 t101 true w48) (matrix_reduce.j5 R k1 k3 v0 v6 v7 v8 v9 v10 t101 x47 t21 t22 t100 t101 (x47==0) w48)) w46) w44) w42) w) (Wr Tryz.prog (Instr.buildSlice 25 1 #[(0,(.int .i64 v10))]) (.one (.at .sl)) (fun(x78:Sl) w79=>
 Wr Tryz.prog (Builtin.append_ #[25,25] 25 #[(.slice v7.base v7.len v7.cap),(.slice x78.base x78.len x78.cap)]) (.one (.at .sl)) (fun(x80:Sl) w81=>
 matrix_reduce.j1 R k1 v0 v6 x80 v8 (IntKind.wrap .i64 (v9+1)) t21 t22 w81) w79) w)
def matrix_reduce.l3(R:EPq)(k1:(Sl×(Option Addr)×Sl×Int×Int×Int×Int×Unit)→WPq):(Sl×(Option Addr)×Sl×Int×Int×Int×Int×Int×Int×Int×Unit)→World→Prop:=arZ (fun k3 s w=>matrix_reduce.b3 R k1 k3 s.1 s.2.1 s.2.2.1 s.2.2.2.1 s.2.2.2.2.1 s.2.2.2.2.2.1 s.2.2.2.2.2.2.1 s.2.2.2.2.2.2.2.1 s.2.2.2.2.2.2.2.2.1 s.2.2.2.2.2.2.2.2.2.1 w)
def matrix_reduce.b2(R:EPq)(k1:(Sl×(Option Addr)×Sl×Int×Int×Int×Int×Unit)→WPq)(k2:(Sl×(Option Addr)×Sl×Int×Int×Int×Int×Int×Int×Sl×Int×Int×Unit)→WPq)(v0:Sl)(v6:(Option Addr))(v7:Sl)(v8:Int)(v9:Int)(v10:Int)(v12:Int)(t21:Int)(t22:Int)(t81:Sl)(t82:Int)(t83:Int)(w:World):Prop:=
 Cd (decide (t83<t82)) (Pu Tryz.prog (Instr.indexAt 24 (.slice t81.base t81.len t81.cap) (.int .i64 t83)) (.one (.at .addr)) (fun(x27:Addr) w28=>
 Rd Tryz.prog (Instr.loadAt 5 (.pointer (some x27))) (.one (.at (.int .u8))) (fun(x29:Int) w30=>
 Held w30.drew (fun S31=>Pu Tryz.prog (Instr.indexAt 30 (.slice v0.base v0.len v0.cap) (.int .i64 v9)) (.one (.at .addr)) (fun(x32:Addr) w33=>
 RdS Tryz.prog S31 (Instr.loadAt 24 (.pointer (some x32))) (.one (.at .sl)) (fun(x34:Sl) w35=>
 Cl Tryz.prog 94 #[(.pointer v6),(.int .u8 x29),(.int .u8 v12)] (.one (.at (.int .u8))) (fun(x36:Int) w37=>
 S31 w37∧(Pu Tryz.prog (Instr.indexAt 24 (.slice x34.base x34.len x34.cap) (.int .i64 t83)) (.one (.at .addr)) (fun(x38:Addr) w39=>
 Wu Tryz.prog (Instr.storeAt 5 (.pointer (some x38)) (.int .u8 x36)) (fun w40=>
 S31 w40∧(matrix_reduce.j3 R k1 k2 v0 v6 v7 v8 v9 v10 v12 t21 t22 t81 t82 t83 w40)) w39) w37)) w35) w33) w30.drew)) w28) w) (matrix_reduce.l3 R k1 (v0,v6,v7,v8,v9,v10,t21,t22,((v0.len:Nat):Int),0,()) w)
def matrix_reduce.l2(R:EPq)(k1:(Sl×(Option Addr)×Sl×Int×Int×Int×Int×Unit)→WPq):(Sl×(Option Addr)×Sl×Int×Int×Int×Int×Int×Int×Sl×Int×Int×Unit)→World→Prop:=arZ (fun k2 s w=>matrix_reduce.b2 R k1 k2 s.1 s.2.1 s.2.2.1 s.2.2.2.1 s.2.2.2.2.1 s.2.2.2.2.2.1 s.2.2.2.2.2.2.1 s.2.2.2.2.2.2.2.1 s.2.2.2.2.2.2.2.2.1 s.2.2.2.2.2.2.2.2.2.1 s.2.2.2.2.2.2.2.2.2.2.1 s.2.2.2.2.2.2.2.2.2.2.2.1 w)
def matrix_reduce.j2(R:EPq)(k1:(Sl×(Option Addr)×Sl×Int×Int×Int×Int×Unit)→WPq)(v0:Sl)(v6:(Option Addr))(v7:Sl)(v8:Int)(v9:Int)(v10:Int)(t21:Int)(t22:Int)(w:World):Prop:=
 Pu Tryz.prog (Instr.indexAt 30 (.slice v0.base v0.len v0.cap) (.int .i64 v9)) (.one (.at .addr)) (fun(x3:Addr) w4=>
 Rd Tryz.prog (Instr.loadAt 24 (.pointer (some x3))) (.one (.at .sl)) (fun(x5:Sl) w6=>
 Pu Tryz.prog (Instr.indexAt 24 (.slice x5.base x5.len x5.cap) (.int .i64 v10)) (.one (.at .addr)) (fun(x7:Addr) w8=>
 Rd Tryz.prog (Instr.loadAt 5 (.pointer (some x7))) (.one (.at (.int .u8))) (fun(x9:Int) w10=>
 Cl Tryz.prog 94 #[(.pointer v6),(.int .u8 v8),(.int .u8 x9)] (.one (.at (.int .u8))) (fun(x11:Int) w12=>
 Pu Tryz.prog (Instr.indexAt 30 (.slice v0.base v0.len v0.cap) (.int .i64 v9)) (.one (.at .addr)) (fun(x13:Addr) w14=>
 Rd Tryz.prog (Instr.loadAt 24 (.pointer (some x13))) (.one (.at .sl)) (fun(x15:Sl) w16=>
 Pu Tryz.prog (Instr.indexAt 24 (.slice x15.base x15.len x15.cap) (.int .i64 v10)) (.one (.at .addr)) (fun(x17:Addr) w18=>
 Rd Tryz.prog (Instr.loadAt 5 (.pointer (some x17))) (.one (.at (.int .u8))) (fun(x19:Int) w20=>
 Cl Tryz.prog 112 #[(.pointer v6),(.int .u8 x19)] (.tup [.at (.int .u8),.at (.int .i64)]) (fun x21 w22=>
 Pu Tryz.prog (Instr.indexAt 30 (.slice v0.base v0.len v0.cap) (.int .i64 v9)) (.one (.at .addr)) (fun(x23:Addr) w24=>
 Rd Tryz.prog (Instr.loadAt 24 (.pointer (some x23))) (.one (.at .sl)) (fun(x25:Sl) w26=>
 matrix_reduce.l2 R k1 (v0,v6,v7,x11,v9,v10,x21.1,t21,t22,x25,((x25.len:Nat):Int),0,()) w26) w24) w22) w20) w18) w16) w14) w12) w10) w8) w6) w4) w
def matrix_reduce.b5(R:EPq)(k1:(Sl×(Option Addr)×Sl×Int×Int×Int×Int×Unit)→WPq)(k5:(Sl×(Option Addr)×Sl×Int×Int×Int×Int×Int×Int×Unit)→WPq)(v0:Sl)(v6:(Option Addr))(v7:Sl)(v8:Int)(v9:Int)(v10:Int)(v11:Int)(t21:Int)(t22:Int)(w:World):Prop:=
 Cd (v11==((v0.len:Nat):Int)) (matrix_reduce.j1 R k1 v0 v6 v7 0 v9 t21 t22 w) (Pu Tryz.prog (Instr.indexAt 30 (.slice v0.base v0.len v0.cap) (.int .i64 v11)) (.one (.at .addr)) (fun(x82:Addr) w83=>
 Rd Tryz.prog (Instr.loadAt 24 (.pointer (some x82))) (.one (.at .sl)) (fun(x84:Sl) w85=>
 Pu Tryz.prog (Instr.indexAt 24 (.slice x84.base x84.len x84.cap) (.int .i64 v10)) (.one (.at .addr)) (fun(x86:Addr) w87=>
 Rd Tryz.prog (Instr.loadAt 5 (.pointer (some x86))) (.one (.at (.int .u8))) (fun(x88:Int) w89=>
 Cd (x88 !=0) (Held w89.drew (fun S90=>Pu Tryz.prog (Instr.indexAt 30 (.slice v0.base v0.len v0.cap) (.int .i64 v11)) (.one (.at .addr)) (fun(x91:Addr) w92=>
 Pu Tryz.prog (Instr.indexAt 30 (.slice v0.base v0.len v0.cap) (.int .i64 v9)) (.one (.at .addr)) (fun(x93:Addr) w94=>
 (Wr Tryz.prog (Instr.loadAt 24 (.pointer (some x91))) (.one (.at .sl)) (fun(x95:Sl) w96=>
 S90 w96∧(Wr Tryz.prog (Instr.loadAt 24 (.pointer (some x93))) (.one (.at .sl)) (fun(x97:Sl) w98=>
 S90 w98∧(Pu Tryz.prog (Instr.indexAt 30 (.slice v0.base v0.len v0.cap) (.int .i64 v9)) (.one (.at .addr)) (fun(x99:Addr) w100=>
 Wu Tryz.prog (Instr.storeAt 24 (.pointer (some x99)) (.slice x95.base x95.len x95.cap)) (fun w101=>
 S90 w101∧(Pu Tryz.prog (Instr.indexAt 30 (.slice v0.base v0.len v0.cap) (.int .i64 v11)) (.one (.at .addr)) (fun(x102:Addr) w103=>
 Wu Tryz.prog (Instr.storeAt 24 (.pointer (some x102)) (.slice x97.base x97.len x97.cap)) (fun w104=>
 S90 w104∧(matrix_reduce.j2 R k1 v0 v6 v7 v8 v9 v10 t21 t22 w104)) w103) w101)) w100) w98)) w96)) w94)∧(Wr Tryz.prog (Instr.loadAt 24 (.pointer (some x93))) (.one (.at .sl)) (fun(x105:Sl) w106=>
 S90 w106∧(Wr Tryz.prog (Instr.loadAt 24 (.pointer (some x91))) (.one (.at .sl)) (fun(x107:Sl) w108=>
 S90 w108∧(Pu Tryz.prog (Instr.indexAt 30 (.slice v0.base v0.len v0.cap) (.int .i64 v9)) (.one (.at .addr)) (fun(x109:Addr) w110=>
 Wu Tryz.prog (Instr.storeAt 24 (.pointer (some x109)) (.slice x107.base x107.len x107.cap)) (fun w111=>
 S90 w111∧(Pu Tryz.prog (Instr.indexAt 30 (.slice v0.base v0.len v0.cap) (.int .i64 v11)) (.one (.at .addr)) (fun(x112:Addr) w113=>
 Wu Tryz.prog (Instr.storeAt 24 (.pointer (some x112)) (.slice x105.base x105.len x105.cap)) (fun w114=>
 S90 w114∧(matrix_reduce.j2 R k1 v0 v6 v7 v8 v9 v10 t21 t22 w114)) w113) w111)) w110) w108)) w106)) w94)) w92) w89.drew)) (k5 (v0,v6,v7,v8,v9,v10,(IntKind.wrap .i64 (v11+1)),t21,t22,()) w89)) w87) w85) w83) w)
def matrix_reduce.l5(R:EPq)(k1:(Sl×(Option Addr)×Sl×Int×Int×Int×Int×Unit)→WPq):(Sl×(Option Addr)×Sl×Int×Int×Int×Int×Int×Int×Unit)→World→Prop:=arZ (fun k5 s w=>matrix_reduce.b5 R k1 k5 s.1 s.2.1 s.2.2.1 s.2.2.2.1 s.2.2.2.2.1 s.2.2.2.2.2.1 s.2.2.2.2.2.2.1 s.2.2.2.2.2.2.2.1 s.2.2.2.2.2.2.2.2.1 w)
def matrix_reduce.b1(R:EPq)(k1:(Sl×(Option Addr)×Sl×Int×Int×Int×Int×Unit)→WPq)(v0:Sl)(v6:(Option Addr))(v7:Sl)(v8:Int)(v9:Int)(t21:Int)(t22:Int)(w:World):Prop:=
 Cd (decide (t22<t21)) (matrix_reduce.l5 R k1 (v0,v6,v7,v8,v9,t22,v9,t21,t22,()) w) (R (.returned (.tuple #[(.slice v7.base v7.len v7.cap),(.int .u8 v8)])) w)
def matrix_reduce.l1(R:EPq):(Sl×(Option Addr)×Sl×Int×Int×Int×Int×Unit)→World→Prop:=arZ (fun k1 s w=>matrix_reduce.b1 R k1 s.1 s.2.1 s.2.2.1 s.2.2.2.1 s.2.2.2.2.1 s.2.2.2.2.2.1 s.2.2.2.2.2.2.1 w)
def matrix_reduce.M(R:EPq)(v0:Sl)(v1:Int)(w:World):Prop:=
 Cl Tryz.prog 93 #[] (.one (.at .ptr)) (fun(x1:(Option Addr)) w2=>
 matrix_reduce.l1 R (v0,x1,⟨none,0,0⟩,1,0,v1,0,()) w2) w
noncomputable def matrix_reduce.ann(R:EPq):Ann:=
 .seq (.reg qN2) (.scope (.seq (.reg (.op 0 (.cl (.one qcP)) (.op 1 .now (.done)))) (.seq (.reg qN1) (.seq (.reg qN1) (.seq (.reg qN1) (.seq (.leaf) (.seq (.seq (.reg qN2) (.block (.loop [(0,qcS),(6,qcP),(7,qcS),(8,qcB),(9,qcI),(21,qcI),(22,qcI)] (fun k1 s w=>matrix_reduce.b1 R k1 s.1 s.2.1 s.2.2.1 s.2.2.2.1 s.2.2.2.2.1 s.2.2.2.2.2.1 s.2.2.2.2.2.2.1 w) (fun k1=>.seq (.reg qN1) (.seq (.cond (.leaf) (.leaf)) (.join [(0,qcS),(6,qcP),(7,qcS),(8,qcB),(9,qcI),(21,qcI),(22,qcI)] (fun s w=>matrix_reduce.j1 R k1 s.1 s.2.1 s.2.2.1 s.2.2.2.1 s.2.2.2.2.1 s.2.2.2.2.2.1 s.2.2.2.2.2.2.1 w) (.block (.seq (.reg qN2) (.scope (.seq (.leaf) (.join [(0,qcS),(6,qcP),(7,qcS),(8,qcB),(9,qcI),(10,qcI),(21,qcI),(22,qcI)] (fun s w=>matrix_reduce.j2 R k1 s.1 s.2.1 s.2.2.1 s.2.2.2.1 s.2.2.2.2.1 s.2.2.2.2.2.1 s.2.2.2.2.2.2.1 s.2.2.2.2.2.2.2.1 w) (.seq (.reg qN2) (.block (.loop [(0,qcS),(6,qcP),(7,qcS),(8,qcB),(9,qcI),(10,qcI),(11,qcI),(21,qcI),(22,qcI)] (fun k5 s w=>matrix_reduce.b5 R k1 k5 s.1 s.2.1 s.2.2.1 s.2.2.2.1 s.2.2.2.2.1 s.2.2.2.2.2.1 s.2.2.2.2.2.2.1 s.2.2.2.2.2.2.2.1 s.2.2.2.2.2.2.2.2.1 w) (fun k5=>.seq (.block (.block (.seq (.reg qN5) (.cond (.seq (.reg qN1) (.leaf)) (.seq (.reg (.op 0 .now (.op 1 .now (.op 2 qpA (.op 3 qrS (.op 4 .now (.op 5 qpA (.op 6 qrB (.op 7 .now (.op 8 .now (.done))))))))))) (.cond (.seq (.regD (.op 0 .now (.op 1 .now (.op 2 .now (.op 3 .now (.op 4 .now (.op 5 .now (.op 6 qpA (.op 8 .now (.op 9 .now (.op 10 qpA (.fork2 7 (.wr (.one qcS)) (.op 11 (.wr (.one qcS)) (.op 12 qpA (.op 13 .wu (.op 14 qpA (.op 15 .wu (.done)))))) 11 (.wr (.one qcS)) (.op 7 (.wr (.one qcS)) (.op 12 qpA (.op 13 .wu (.op 14 qpA (.op 15 .wu (.done)))))))))))))))))) (.leaf)) (.leaf))))))) (.reg qN3))))) (.seq (.reg (.op 0 .now (.op 1 .now (.op 2 .now (.op 3 .now (.op 4 qpA (.op 5 qrS (.op 6 .now (.op 7 qpA (.op 8 qrB (.op 9 (.cl (.one qcB)) (.op 10 .now (.done))))))))))))) (.seq (.reg (.op 0 .now (.op 1 .now (.op 2 .now (.op 3 qpA (.op 4 qrS (.op 5 .now (.op 6 qpA (.op 7 qrB (.op 8 (.cl (.tup [.at (.int .u8),.at (.int .i64)])) (.op 9 .now (.op 10 .now (.op 11 .now (.op 12 .now (.op 13 .now (.done)))))))))))))))) (.seq (.seq (.reg (.op 0 .now (.op 1 .now (.op 2 qpA (.op 3 qrS (.op 4 .now (.op 5 .now (.done)))))))) (.block (.loop [(0,qcS),(6,qcP),(7,qcS),(8,qcB),(9,qcI),(10,qcI),(12,qcB),(21,qcI),(22,qcI),(81,qcS),(82,qcI),(83,qcI)] (fun k2 s w=>matrix_reduce.b2 R k1 k2 s.1 s.2.1 s.2.2.1 s.2.2.2.1 s.2.2.2.2.1 s.2.2.2.2.2.1 s.2.2.2.2.2.2.1 s.2.2.2.2.2.2.2.1 s.2.2.2.2.2.2.2.2.1 s.2.2.2.2.2.2.2.2.2.1 s.2.2.2.2.2.2.2.2.2.2.1 s.2.2.2.2.2.2.2.2.2.2.2.1 w) (fun k2=>.seq (.reg qN1) (.seq (.cond (.leaf) (.leaf)) (.join [(0,qcS),(6,qcP),(7,qcS),(8,qcB),(9,qcI),(10,qcI),(12,qcB),(21,qcI),(22,qcI),(81,qcS),(82,qcI),(83,qcI)] (fun s w=>matrix_reduce.j3 R k1 k2 s.1 s.2.1 s.2.2.1 s.2.2.2.1 s.2.2.2.2.1 s.2.2.2.2.2.1 s.2.2.2.2.2.2.1 s.2.2.2.2.2.2.2.1 s.2.2.2.2.2.2.2.2.1 s.2.2.2.2.2.2.2.2.2.1 s.2.2.2.2.2.2.2.2.2.2.1 s.2.2.2.2.2.2.2.2.2.2.2.1 w) (.block (.seq (.reg (.op 0 .now (.op 1 qpA (.op 2 qrB (.op 3 .now (.op 4 .now (.done))))))) (.regD (.op 0 .now (.op 1 .now (.op 2 qpA (.op 3 qrS (.op 4 .now (.op 5 .now (.op 6 .now (.op 7 .now (.op 8 (.cl (.one qcB)) (.op 9 qpA (.op 10 .wu (.done))))))))))))))) (.reg qN2))))))) (.seq (.seq (.reg qN3) (.block (.loop [(0,qcS),(6,qcP),(7,qcS),(8,qcB),(9,qcI),(10,qcI),(21,qcI),(22,qcI),(100,qcI),(101,qcI)] (fun k3 s w=>matrix_reduce.b3 R k1 k3 s.1 s.2.1 s.2.2.1 s.2.2.2.1 s.2.2.2.2.1 s.2.2.2.2.2.1 s.2.2.2.2.2.2.1 s.2.2.2.2.2.2.2.1 s.2.2.2.2.2.2.2.2.1 s.2.2.2.2.2.2.2.2.2.1 w) (fun k3=>.seq (.reg qN1) (.seq (.cond (.leaf) (.leaf)) (.join [(0,qcS),(6,qcP),(7,qcS),(8,qcB),(9,qcI),(10,qcI),(21,qcI),(22,qcI),(100,qcI),(101,qcI)] (fun s w=>matrix_reduce.j4 R k1 k3 s.1 s.2.1 s.2.2.1 s.2.2.2.1 s.2.2.2.2.1 s.2.2.2.2.2.1 s.2.2.2.2.2.2.1 s.2.2.2.2.2.2.2.1 s.2.2.2.2.2.2.2.2.1 s.2.2.2.2.2.2.2.2.2.1 w) (.block (.seq (.reg qN2) (.seq (.reg (.op 0 .now (.op 1 .now (.op 2 qpA (.op 3 qrS (.op 4 .now (.op 5 qpA (.op 6 qrB (.op 7 .now (.done)))))))))) (.seq (.join [(0,qcS),(6,qcP),(7,qcS),(8,qcB),(9,qcI),(10,qcI),(16,qcI),(17,qcB),(21,qcI),(22,qcI),(100,qcI),(101,qcI),(117,.at .bool)] (fun s w=>matrix_reduce.j5 R k1 k3 s.1 s.2.1 s.2.2.1 s.2.2.2.1 s.2.2.2.2.1 s.2.2.2.2.2.1 s.2.2.2.2.2.2.1 s.2.2.2.2.2.2.2.1 s.2.2.2.2.2.2.2.2.1 s.2.2.2.2.2.2.2.2.2.1 s.2.2.2.2.2.2.2.2.2.2.1 s.2.2.2.2.2.2.2.2.2.2.2.1 s.2.2.2.2.2.2.2.2.2.2.2.2.1 w) (.reg (.op 0 .now (.op 1 .now (.op 2 .now (.op 3 .now (.split 3 (.skip 4 (.skip 5 (.op 6 .now (.done)))) (.op 4 .now (.op 5 .now (.op 6 .now (.done)))))))))) (.cond (.leaf) (.leaf))) (.seq (.reg (.op 0 .now (.op 1 .now (.op 2 qpA (.op 3 qrS (.op 4 .now (.op 5 .now (.done)))))))) (.block (.loop [(0,qcS),(6,qcP),(7,qcS),(8,qcB),(9,qcI),(10,qcI),(16,qcI),(17,qcB),(21,qcI),(22,qcI),(100,qcI),(101,qcI),(121,qcS),(122,qcI),(123,qcI)] (fun k4 s w=>matrix_reduce.b4 R k1 k3 k4 s.1 s.2.1 s.2.2.1 s.2.2.2.1 s.2.2.2.2.1 s.2.2.2.2.2.1 s.2.2.2.2.2.2.1 s.2.2.2.2.2.2.2.1 s.2.2.2.2.2.2.2.2.1 s.2.2.2.2.2.2.2.2.2.1 s.2.2.2.2.2.2.2.2.2.2.1 s.2.2.2.2.2.2.2.2.2.2.2.1 s.2.2.2.2.2.2.2.2.2.2.2.2.1 s.2.2.2.2.2.2.2.2.2.2.2.2.2.1 s.2.2.2.2.2.2.2.2.2.2.2.2.2.2.1 w) (fun k4=>.seq (.reg qN1) (.seq (.cond (.leaf) (.leaf)) (.join [(0,qcS),(6,qcP),(7,qcS),(8,qcB),(9,qcI),(10,qcI),(16,qcI),(17,qcB),(21,qcI),(22,qcI),(100,qcI),(101,qcI),(121,qcS),(122,qcI),(123,qcI)] (fun s w=>matrix_reduce.j6 R k1 k3 k4 s.1 s.2.1 s.2.2.1 s.2.2.2.1 s.2.2.2.2.1 s.2.2.2.2.2.1 s.2.2.2.2.2.2.1 s.2.2.2.2.2.2.2.1 s.2.2.2.2.2.2.2.2.1 s.2.2.2.2.2.2.2.2.2.1 s.2.2.2.2.2.2.2.2.2.2.1 s.2.2.2.2.2.2.2.2.2.2.2.1 s.2.2.2.2.2.2.2.2.2.2.2.2.1 s.2.2.2.2.2.2.2.2.2.2.2.2.2.1 s.2.2.2.2.2.2.2.2.2.2.2.2.2.2.1 w) (.block (.seq (.reg (.op 0 .now (.op 1 qpA (.op 2 qrB (.op 3 .now (.op 4 .now (.done))))))) (.regD (.op 0 .now (.op 1 .now (.op 2 qpA (.op 3 qrS (.op 4 .now (.op 5 qpA (.op 7 .now (.op 8 .now (.op 9 .now (.fork2 6 (.wr (.one qcB)) (.op 10 (.cl (.one qcB)) (.op 11 .now (.op 12 qpA (.op 13 .wu (.done))))) 10 (.cl (.one qcB)) (.op 6 (.wr (.one qcB)) (.op 11 .now (.op 12 qpA (.op 13 .wu (.done)))))))))))))))))) (.reg qN2))))))))))) (.reg qN2))))))) (.seq (.reg (.op 0 .now (.op 1 .now (.op 2 (.wr (.one qcS)) (.op 3 (.wr (.one qcS)) (.op 4 .now (.done))))))) (.reg qN3))))))))))) (.reg qN2))))))) (.seq (.reg qN4) (.leaf)))))))))
theorem matrix_reduce.run(R:EPq)(v0:Sl)(v1:Int)(w:World)(h:matrix_reduce.M R v0 v1 w):Calls Tryz.prog 116 #[(.slice v0.base v0.len v0.cap),(.int .i64 v1)] w R:=by
 refine aaZ aDZ Tryz.func116 (c:=matrix_reduce.body) (by kernel_rfl) [.at .sl,.at (.int .u8)] (matrix_reduce.ann R) 152 Tryz.ntmps116 [.tmp 4,.tmp 5] (by kernel_rfl) (Nat.le_of_ble_eq_true (by kernel_rfl)) ?_ ?_
 ·exact⟨tv,⟨tv,⟨tv,⟨tv,⟨tv,⟨tv,⟨⟨tv,(fun k1=>⟨fun s w=>mq,⟨tv,⟨⟨tv,tv⟩,⟨fun s w=>mq,⟨tv,⟨tv,⟨fun s w=>mq,⟨tv,(fun k5=>⟨fun s w=>mq,⟨⟨tv,⟨⟨tv,tv⟩,⟨tv,⟨⟨(show Region.noSelect _=true by kernel_rfl),tv⟩,tv⟩⟩⟩⟩,tv⟩⟩)⟩,⟨tv,⟨tv,⟨⟨tv,(fun k2=>⟨fun s w=>mq,⟨tv,⟨⟨tv,tv⟩,⟨fun s w=>mq,⟨tv,(show Region.noSelect _=true by kernel_rfl)⟩,tv⟩⟩⟩⟩)⟩,⟨⟨tv,(fun k3=>⟨fun s w=>mq,⟨tv,⟨⟨tv,tv⟩,⟨fun s w=>mq,⟨tv,⟨tv,⟨⟨fun s w=>mq,tv,⟨tv,tv⟩⟩,⟨tv,(fun k4=>⟨fun s w=>mq,⟨tv,⟨⟨tv,tv⟩,⟨fun s w=>mq,⟨tv,(show Region.noSelect _=true by kernel_rfl)⟩,tv⟩⟩⟩⟩)⟩⟩⟩⟩,tv⟩⟩⟩⟩)⟩,⟨tv,tv⟩⟩⟩⟩⟩⟩⟩⟩,tv⟩⟩⟩⟩)⟩,⟨tv,tv⟩⟩⟩⟩⟩⟩⟩⟩
 ·exact Eq.mp (show matrix_reduce.M R v0 v1 w=_ by kernel_rfl) h
noncomputable def matrix_Cauchy.body:Code:=(Tryz.f84.body).getD .skip
def matrix_Cauchy.j2(R:EPq)(k1:(Int×(Option Addr)×Sl×Int×Int×Unit)→WPq)(k2:(Int×(Option Addr)×Sl×Int×Int×Int×Int×Int×Unit)→WPq)(v1:Int)(v6:(Option Addr))(v7:Sl)(v8:Int)(t35:Int)(t36:Int)(t43:Int)(t44:Int)(w:World):Prop:=
 k2 (v1,v6,v7,v8,t35,t36,t43,(IntKind.wrap .i64 (t44+1)),()) w
def matrix_Cauchy.b2(R:EPq)(k1:(Int×(Option Addr)×Sl×Int×Int×Unit)→WPq)(k2:(Int×(Option Addr)×Sl×Int×Int×Int×Int×Int×Unit)→WPq)(v1:Int)(v6:(Option Addr))(v7:Sl)(v8:Int)(t35:Int)(t36:Int)(t43:Int)(t44:Int)(w:World):Prop:=
 Cd (decide (t44<t43)) (Held w.drew (fun S9=>Pu Tryz.prog (Instr.indexAt 30 (.slice v7.base v7.len v7.cap) (.int .i64 v8)) (.one (.at .addr)) (fun(x10:Addr) w11=>
 RdS Tryz.prog S9 (Instr.loadAt 24 (.pointer (some x10))) (.one (.at .sl)) (fun(x12:Sl) w13=>
 Cl Tryz.prog 112 #[(.pointer v6),(.int .u8 (bXor .u8 (IntKind.wrap .u8 (IntKind.wrap .i64 (v1+v8))) (IntKind.wrap .u8 t44)))] (.tup [.at (.int .u8),.at (.int .i64)]) (fun x14 w15=>
 S9 w15∧(Pu Tryz.prog (Instr.indexAt 24 (.slice x12.base x12.len x12.cap) (.int .i64 t44)) (.one (.at .addr)) (fun(x16:Addr) w17=>
 Wu Tryz.prog (Instr.storeAt 5 (.pointer (some x16)) (.int .u8 x14.1)) (fun w18=>
 S9 w18∧(matrix_Cauchy.j2 R k1 k2 v1 v6 v7 v8 t35 t36 t43 t44 w18)) w17) w15)) w13) w11) w.drew)) (k1 (v1,v6,v7,t35,(IntKind.wrap .i64 (t36+1)),()) w)
def matrix_Cauchy.l2(R:EPq)(k1:(Int×(Option Addr)×Sl×Int×Int×Unit)→WPq):(Int×(Option Addr)×Sl×Int×Int×Int×Int×Int×Unit)→World→Prop:=arZ (fun k2 s w=>matrix_Cauchy.b2 R k1 k2 s.1 s.2.1 s.2.2.1 s.2.2.2.1 s.2.2.2.2.1 s.2.2.2.2.2.1 s.2.2.2.2.2.2.1 s.2.2.2.2.2.2.2.1 w)
def matrix_Cauchy.b1(R:EPq)(k1:(Int×(Option Addr)×Sl×Int×Int×Unit)→WPq)(v1:Int)(v6:(Option Addr))(v7:Sl)(t35:Int)(t36:Int)(w:World):Prop:=
 Cd (decide (t36<t35)) (Pu Tryz.prog (Instr.indexAt 30 (.slice v7.base v7.len v7.cap) (.int .i64 t36)) (.one (.at .addr)) (fun(x5:Addr) w6=>
 Rd Tryz.prog (Instr.loadAt 24 (.pointer (some x5))) (.one (.at .sl)) (fun(x7:Sl) w8=>
 matrix_Cauchy.l2 R k1 (v1,v6,v7,t36,t35,t36,((x7.len:Nat):Int),0,()) w8) w6) w) (R (.returned (.tuple #[(.slice v7.base v7.len v7.cap),(.int .i64 0)])) w)
def matrix_Cauchy.l1(R:EPq):(Int×(Option Addr)×Sl×Int×Int×Unit)→World→Prop:=arZ (fun k1 s w=>matrix_Cauchy.b1 R k1 s.1 s.2.1 s.2.2.1 s.2.2.2.1 s.2.2.2.2.1 w)
def matrix_Cauchy.j1(R:EPq)(v0:Int)(v1:Int)(t29:Bool)(w:World):Prop:=
 Cd t29 (R (.returned (.tuple #[(.slice none 0 0),(.int .i64 100)])) w) (Cl Tryz.prog 93 #[] (.one (.at .ptr)) (fun(x1:(Option Addr)) w2=>
 Cl Tryz.prog 91 #[(.int .i64 v0),(.int .i64 v1)] (.one (.at .sl)) (fun(x3:Sl) w4=>
 matrix_Cauchy.l1 R (v1,x1,x3,((x3.len:Nat):Int),0,()) w4) w2) w)
def matrix_Cauchy.M(R:EPq)(v0:Int)(v1:Int)(w:World):Prop:=
 Cd (decide (v0<1)) (matrix_Cauchy.j1 R v0 v1 true w) (Cd (decide (v0>256)) (matrix_Cauchy.j1 R v0 v1 true w) (Cd (decide (v1<1)) (matrix_Cauchy.j1 R v0 v1 true w) (Cd (decide (v1>256)) (matrix_Cauchy.j1 R v0 v1 true w) (matrix_Cauchy.j1 R v0 v1 (decide ((IntKind.wrap .i64 (v0+v1))>256)) w))))
noncomputable def matrix_Cauchy.ann(R:EPq):Ann:=
 .seq (.reg qN2) (.seq (.join [(0,qcI),(1,qcI),(29,.at .bool)] (fun s w=>matrix_Cauchy.j1 R s.1 s.2.1 s.2.2.1 w) (.reg (.op 0 .now (.op 1 .now (.op 2 .now (.split 2 (.skip 3 (.skip 4 (.op 5 .now (.op 6 .now (.skip 7 (.skip 8 (.op 9 .now (.op 10 .now (.skip 11 (.skip 12 (.op 13 .now (.op 14 .now (.skip 15 (.skip 16 (.skip 17 (.skip 18 (.op 19 .now (.done)))))))))))))))))) (.op 3 .now (.op 4 .now (.op 5 .now (.op 6 .now (.split 6 (.skip 7 (.skip 8 (.op 9 .now (.op 10 .now (.skip 11 (.skip 12 (.op 13 .now (.op 14 .now (.skip 15 (.skip 16 (.skip 17 (.skip 18 (.op 19 .now (.done)))))))))))))) (.op 7 .now (.op 8 .now (.op 9 .now (.op 10 .now (.split 10 (.skip 11 (.skip 12 (.op 13 .now (.op 14 .now (.skip 15 (.skip 16 (.skip 17 (.skip 18 (.op 19 .now (.done)))))))))) (.op 11 .now (.op 12 .now (.op 13 .now (.op 14 .now (.split 14 (.skip 15 (.skip 16 (.skip 17 (.skip 18 (.op 19 .now (.done)))))) (.op 15 .now (.op 16 .now (.op 17 .now (.op 18 .now (.op 19 .now (.done)))))))))))))))))))))))))) (.cond (.seq (.reg qN2) (.leaf)) (.leaf))) (.seq (.reg (.op 0 (.cl (.one qcP)) (.op 1 .now (.done)))) (.seq (.reg (.op 0 .now (.op 1 .now (.op 2 (.cl (.one qcS)) (.op 3 .now (.done)))))) (.seq (.seq (.reg qN3) (.block (.loop [(1,qcI),(6,qcP),(7,qcS),(35,qcI),(36,qcI)] (fun k1 s w=>matrix_Cauchy.b1 R k1 s.1 s.2.1 s.2.2.1 s.2.2.2.1 s.2.2.2.2.1 w) (fun k1=>.seq (.reg qN1) (.seq (.cond (.leaf) (.leaf)) (.seq (.block (.seq (.reg qN2) (.seq (.reg (.op 0 .now (.op 1 .now (.op 2 qpA (.op 3 qrS (.op 4 .now (.op 5 .now (.done)))))))) (.block (.loop [(1,qcI),(6,qcP),(7,qcS),(8,qcI),(35,qcI),(36,qcI),(43,qcI),(44,qcI)] (fun k2 s w=>matrix_Cauchy.b2 R k1 k2 s.1 s.2.1 s.2.2.1 s.2.2.2.1 s.2.2.2.2.1 s.2.2.2.2.2.1 s.2.2.2.2.2.2.1 s.2.2.2.2.2.2.2.1 w) (fun k2=>.seq (.reg qN1) (.seq (.cond (.leaf) (.leaf)) (.join [(1,qcI),(6,qcP),(7,qcS),(8,qcI),(35,qcI),(36,qcI),(43,qcI),(44,qcI)] (fun s w=>matrix_Cauchy.j2 R k1 k2 s.1 s.2.1 s.2.2.1 s.2.2.2.1 s.2.2.2.2.1 s.2.2.2.2.2.1 s.2.2.2.2.2.2.1 s.2.2.2.2.2.2.2.1 w) (.block (.seq (.reg qN2) (.regD (.op 0 .now (.op 1 .now (.op 2 qpA (.op 3 qrS (.op 4 .now (.op 5 .now (.op 6 .now (.op 7 .now (.op 8 .now (.op 9 .now (.op 10 .now (.op 11 .now (.op 12 .now (.op 13 (.cl (.tup [.at (.int .u8),.at (.int .i64)])) (.op 14 .now (.op 15 .now (.op 16 .now (.op 17 qpA (.op 18 .wu (.done))))))))))))))))))))))) (.reg qN2))))))))) (.reg qN2))))))) (.seq (.reg qN3) (.leaf))))))
theorem matrix_Cauchy.run(R:EPq)(v0:Int)(v1:Int)(w:World)(h:matrix_Cauchy.M R v0 v1 w):Calls Tryz.prog 84 #[(.int .i64 v0),(.int .i64 v1)] w R:=by
 refine aaZ aDZ Tryz.func84 (c:=matrix_Cauchy.body) (by kernel_rfl) [.at .sl,.at (.int .i64)] (matrix_Cauchy.ann R) 68 Tryz.ntmps84 [.tmp 4,.tmp 5] (by kernel_rfl) (Nat.le_of_ble_eq_true (by kernel_rfl)) ?_ ?_
 ·exact⟨tv,⟨⟨fun s w=>mq,tv,⟨⟨tv,tv⟩,tv⟩⟩,⟨tv,⟨tv,⟨⟨tv,(fun k1=>⟨fun s w=>mq,⟨tv,⟨⟨tv,tv⟩,⟨⟨tv,⟨tv,(fun k2=>⟨fun s w=>mq,⟨tv,⟨⟨tv,tv⟩,⟨fun s w=>mq,⟨tv,(show Region.noSelect _=true by kernel_rfl)⟩,tv⟩⟩⟩⟩)⟩⟩,tv⟩⟩⟩⟩)⟩,⟨tv,tv⟩⟩⟩⟩⟩⟩
 ·exact Eq.mp (show matrix_Cauchy.M R v0 v1 w=_ by kernel_rfl) h
noncomputable def matrix_Vandermonde.body:Code:=(Tryz.f85.body).getD .skip
def matrix_Vandermonde.j2(R:EPq)(k1:(Int×Sl×Int×Int×Unit)→WPq)(k2:(Int×Sl×Int×Int×Int×Int×Unit)→WPq)(v1:Int)(v6:Sl)(v7:Int)(v8:Int)(t27:Int)(t28:Int)(w:World):Prop:=
 k2 (v1,v6,v7,(IntKind.wrap .i64 (v8+1)),t27,t28,()) w
def matrix_Vandermonde.b2(R:EPq)(k1:(Int×Sl×Int×Int×Unit)→WPq)(k2:(Int×Sl×Int×Int×Int×Int×Unit)→WPq)(v1:Int)(v6:Sl)(v7:Int)(v8:Int)(t27:Int)(t28:Int)(w:World):Prop:=
 Cd (decide (v8<v1)) (Held w.drew (fun S10=>Pu Tryz.prog (Instr.indexAt 30 (.slice v6.base v6.len v6.cap) (.int .i64 v7)) (.one (.at .addr)) (fun(x11:Addr) w12=>
 RdS Tryz.prog S10 (Instr.loadAt 24 (.pointer (some x11))) (.one (.at .sl)) (fun(x13:Sl) w14=>
 Pu Tryz.prog (Instr.indexAt 30 (.slice v6.base v6.len v6.cap) (.int .i64 v7)) (.one (.at .addr)) (fun(x15:Addr) w16=>
 RdS Tryz.prog S10 (Instr.loadAt 24 (.pointer (some x15))) (.one (.at .sl)) (fun(x17:Sl) w18=>
 Pu Tryz.prog (Instr.indexAt 24 (.slice x17.base x17.len x17.cap) (.int .i64 (IntKind.wrap .i64 (v8-1)))) (.one (.at .addr)) (fun(x19:Addr) w20=>
 RdS Tryz.prog S10 (Instr.loadAt 5 (.pointer (some x19))) (.one (.at (.int .u8))) (fun(x21:Int) w22=>
 Cl Tryz.prog 113 #[(.int .u8 x21),(.int .u8 (IntKind.wrap .u8 v7))] (.one (.at (.int .u8))) (fun(x23:Int) w24=>
 S10 w24∧(Pu Tryz.prog (Instr.indexAt 24 (.slice x13.base x13.len x13.cap) (.int .i64 v8)) (.one (.at .addr)) (fun(x25:Addr) w26=>
 Wu Tryz.prog (Instr.storeAt 5 (.pointer (some x25)) (.int .u8 x23)) (fun w27=>
 S10 w27∧(matrix_Vandermonde.j2 R k1 k2 v1 v6 v7 v8 t27 t28 w27)) w26) w24)) w22) w20) w18) w16) w14) w12) w.drew)) (k1 (v1,v6,t27,(IntKind.wrap .i64 (t28+1)),()) w)
def matrix_Vandermonde.l2(R:EPq)(k1:(Int×Sl×Int×Int×Unit)→WPq):(Int×Sl×Int×Int×Int×Int×Unit)→World→Prop:=arZ (fun k2 s w=>matrix_Vandermonde.b2 R k1 k2 s.1 s.2.1 s.2.2.1 s.2.2.2.1 s.2.2.2.2.1 s.2.2.2.2.2.1 w)
def matrix_Vandermonde.b1(R:EPq)(k1:(Int×Sl×Int×Int×Unit)→WPq)(v1:Int)(v6:Sl)(t27:Int)(t28:Int)(w:World):Prop:=
 Cd (decide (t28<t27)) (Pu Tryz.prog (Instr.indexAt 30 (.slice v6.base v6.len v6.cap) (.int .i64 t28)) (.one (.at .addr)) (fun(x3:Addr) w4=>
 Rd Tryz.prog (Instr.loadAt 24 (.pointer (some x3))) (.one (.at .sl)) (fun(x5:Sl) w6=>
 Pu Tryz.prog (Instr.indexAt 24 (.slice x5.base x5.len x5.cap) (.int .i64 0)) (.one (.at .addr)) (fun(x7:Addr) w8=>
 Wu Tryz.prog (Instr.storeAt 5 (.pointer (some x7)) (.int .u8 1)) (fun w9=>
 matrix_Vandermonde.l2 R k1 (v1,v6,t28,1,t27,t28,()) w9) w8) w6) w4) w) (R (.returned (.tuple #[(.slice v6.base v6.len v6.cap),(.int .i64 0)])) w)
def matrix_Vandermonde.l1(R:EPq):(Int×Sl×Int×Int×Unit)→World→Prop:=arZ (fun k1 s w=>matrix_Vandermonde.b1 R k1 s.1 s.2.1 s.2.2.1 s.2.2.2.1 w)
def matrix_Vandermonde.j1(R:EPq)(v0:Int)(v1:Int)(t22:Bool)(w:World):Prop:=
 Cd t22 (R (.returned (.tuple #[(.slice none 0 0),(.int .i64 100)])) w) (Cl Tryz.prog 91 #[(.int .i64 v0),(.int .i64 v1)] (.one (.at .sl)) (fun(x1:Sl) w2=>
 matrix_Vandermonde.l1 R (v1,x1,((x1.len:Nat):Int),0,()) w2) w)
def matrix_Vandermonde.M(R:EPq)(v0:Int)(v1:Int)(w:World):Prop:=
 Cd (decide (v0<1)) (matrix_Vandermonde.j1 R v0 v1 true w) (Cd (decide (v0>256)) (matrix_Vandermonde.j1 R v0 v1 true w) (Cd (decide (v1<1)) (matrix_Vandermonde.j1 R v0 v1 true w) (matrix_Vandermonde.j1 R v0 v1 (decide (v1>512)) w)))
noncomputable def matrix_Vandermonde.ann(R:EPq):Ann:=
 .seq (.reg qN2) (.seq (.join [(0,qcI),(1,qcI),(22,.at .bool)] (fun s w=>matrix_Vandermonde.j1 R s.1 s.2.1 s.2.2.1 w) (.reg (.op 0 .now (.op 1 .now (.op 2 .now (.split 2 (.skip 3 (.skip 4 (.op 5 .now (.op 6 .now (.skip 7 (.skip 8 (.op 9 .now (.op 10 .now (.skip 11 (.skip 12 (.op 13 .now (.done)))))))))))) (.op 3 .now (.op 4 .now (.op 5 .now (.op 6 .now (.split 6 (.skip 7 (.skip 8 (.op 9 .now (.op 10 .now (.skip 11 (.skip 12 (.op 13 .now (.done)))))))) (.op 7 .now (.op 8 .now (.op 9 .now (.op 10 .now (.split 10 (.skip 11 (.skip 12 (.op 13 .now (.done)))) (.op 11 .now (.op 12 .now (.op 13 .now (.done))))))))))))))))))) (.cond (.seq (.reg qN2) (.leaf)) (.leaf))) (.seq (.reg (.op 0 .now (.op 1 .now (.op 2 (.cl (.one qcS)) (.op 3 .now (.done)))))) (.seq (.seq (.reg qN3) (.block (.loop [(1,qcI),(6,qcS),(27,qcI),(28,qcI)] (fun k1 s w=>matrix_Vandermonde.b1 R k1 s.1 s.2.1 s.2.2.1 s.2.2.2.1 w) (fun k1=>.seq (.reg qN1) (.seq (.cond (.leaf) (.leaf)) (.seq (.block (.seq (.reg qN2) (.seq (.reg (.op 0 .now (.op 1 .now (.op 2 qpA (.op 3 qrS (.op 4 qpA (.op 5 .wu (.done)))))))) (.seq (.reg qN1) (.block (.loop [(1,qcI),(6,qcS),(7,qcI),(8,qcI),(27,qcI),(28,qcI)] (fun k2 s w=>matrix_Vandermonde.b2 R k1 k2 s.1 s.2.1 s.2.2.1 s.2.2.2.1 s.2.2.2.2.1 s.2.2.2.2.2.1 w) (fun k2=>.seq (.seq (.reg qN3) (.cond (.leaf) (.leaf))) (.join [(1,qcI),(6,qcS),(7,qcI),(8,qcI),(27,qcI),(28,qcI)] (fun s w=>matrix_Vandermonde.j2 R k1 k2 s.1 s.2.1 s.2.2.1 s.2.2.2.1 s.2.2.2.2.1 s.2.2.2.2.2.1 w) (.block (.regD (.op 0 .now (.op 1 .now (.op 2 qpA (.op 3 qrS (.op 4 .now (.op 5 .now (.op 6 .now (.op 7 qpA (.op 8 qrS (.op 9 .now (.op 10 .now (.op 11 qpA (.op 12 qrB (.op 13 .now (.op 14 .now (.op 15 (.cl (.one qcB)) (.op 16 qpA (.op 17 .wu (.done))))))))))))))))))))) (.reg qN3))))))))) (.reg qN2))))))) (.seq (.reg qN3) (.leaf)))))
theorem matrix_Vandermonde.run(R:EPq)(v0:Int)(v1:Int)(w:World)(h:matrix_Vandermonde.M R v0 v1 w):Calls Tryz.prog 85 #[(.int .i64 v0),(.int .i64 v1)] w R:=by
 refine aaZ aDZ Tryz.func85 (c:=matrix_Vandermonde.body) (by kernel_rfl) [.at .sl,.at (.int .i64)] (matrix_Vandermonde.ann R) 60 Tryz.ntmps85 [.tmp 4,.tmp 5] (by kernel_rfl) (Nat.le_of_ble_eq_true (by kernel_rfl)) ?_ ?_
 ·exact⟨tv,⟨⟨fun s w=>mq,tv,⟨⟨tv,tv⟩,tv⟩⟩,⟨tv,⟨⟨tv,(fun k1=>⟨fun s w=>mq,⟨tv,⟨⟨tv,tv⟩,⟨⟨tv,⟨tv,⟨tv,(fun k2=>⟨fun s w=>mq,⟨⟨tv,⟨tv,tv⟩⟩,⟨fun s w=>mq,(show Region.noSelect _=true by kernel_rfl),tv⟩⟩⟩)⟩⟩⟩,tv⟩⟩⟩⟩)⟩,⟨tv,tv⟩⟩⟩⟩⟩
 ·exact Eq.mp (show matrix_Vandermonde.M R v0 v1 w=_ by kernel_rfl) h
noncomputable def gener_systematic.body:Code:=(Tryz.f86.body).getD .skip
def gener_systematic.M(R:EPq)(v0:Sl)(w:World):Prop:=
 Cl Tryz.prog 90 #[(.slice v0.base v0.len v0.cap)] (.one (.at (.int .i64))) (fun(x1:Int) w2=>
 Cd (x1 !=0) (R (.returned (.tuple #[(.slice none 0 0),(.int .i64 x1)])) w2) (Pu Tryz.prog (Instr.indexAt 30 (.slice v0.base v0.len v0.cap) (.int .i64 0)) (.one (.at .addr)) (fun(x3:Addr) w4=>
 Rd Tryz.prog (Instr.loadAt 24 (.pointer (some x3))) (.one (.at .sl)) (fun(x5:Sl) w6=>
 Cd (decide (((v0.len:Nat):Int)<((x5.len:Nat):Int))) (R (.returned (.tuple #[(.slice none 0 0),(.int .i64 101)])) w6) (Pu Tryz.prog (Instr.sliceAt 30 (.slice v0.base v0.len v0.cap) none (some (.int .i64 ((x5.len:Nat):Int))) none) (.one (.at .sl)) (fun(x7:Sl) w8=>
 Cl Tryz.prog 69 #[(.slice x7.base x7.len x7.cap)] (.tup [.at .sl,.at (.int .i64)]) (fun x9 w10=>
 Cd (x9.2.1 !=0) (R (.returned (.tuple #[(.slice none 0 0),(.int .i64 x9.2.1)])) w10) (Cl Tryz.prog 70 #[(.slice v0.base v0.len v0.cap),(.slice x9.1.base x9.1.len x9.1.cap)] (.tup [.at .sl,.at (.int .i64)]) (fun x11 w12=>
 R (.returned (.tuple #[(.slice x11.1.base x11.1.len x11.1.cap),(.int .i64 x11.2.1)])) w12) w10)) w8) w6)) w4) w2)) w
noncomputable def gener_systematic.ann(R:EPq):Ann:=
 .seq (.reg qN2) (.seq (.seq (.reg (.op 0 .now (.op 1 (.cl (.one qcI)) (.op 2 .now (.done))))) (.seq (.reg qN2) (.cond (.seq (.reg qN3) (.leaf)) (.leaf)))) (.seq (.reg (.op 0 .now (.op 1 qpA (.op 2 qrS (.op 3 .now (.op 4 .now (.done))))))) (.seq (.seq (.reg qN4) (.cond (.seq (.reg qN2) (.leaf)) (.leaf))) (.seq (.reg (.op 0 .now (.op 1 .now (.op 2 (.pu (.one qcS)) (.op 3 (.cl (.tup [.at .sl,.at (.int .i64)])) (.op 4 .now (.op 5 .now (.op 6 .now (.op 7 .now (.op 8 .now (.done))))))))))) (.seq (.seq (.reg qN2) (.cond (.seq (.reg qN3) (.leaf)) (.leaf))) (.seq (.reg (.op 0 .now (.op 1 .now (.op 2 (.cl (.tup [.at .sl,.at (.int .i64)])) (.op 3 .now (.op 4 .now (.op 5 .now (.op 6 .now (.done))))))))) (.leaf)))))))
theorem gener_systematic.run(R:EPq)(v0:Sl)(w:World)(h:gener_systematic.M R v0 w):Calls Tryz.prog 86 #[(.slice v0.base v0.len v0.cap)] w R:=by
 refine aaZ aDZ Tryz.func86 (c:=gener_systematic.body) (by kernel_rfl) [.at .sl,.at (.int .i64)] (gener_systematic.ann R) 36 Tryz.ntmps86 [.tmp 2,.tmp 3] (by kernel_rfl) (Nat.le_of_ble_eq_true (by kernel_rfl)) ?_ ?_
 ·exact⟨tv,⟨⟨tv,⟨tv,⟨⟨tv,tv⟩,tv⟩⟩⟩,⟨tv,⟨⟨tv,⟨⟨tv,tv⟩,tv⟩⟩,⟨tv,⟨⟨tv,⟨⟨tv,tv⟩,tv⟩⟩,⟨tv,tv⟩⟩⟩⟩⟩⟩⟩
 ·exact Eq.mp (show gener_systematic.M R v0 w=_ by kernel_rfl) h
noncomputable def shape_Params.body:Code:=(Tryz.f87.body).getD .skip
def shape_Params.j3(R:EPq)(t35:Bool)(w:World):Prop:=
 Cd t35 (R (.returned (.int .i64 4)) w) (R (.returned (.int .i64 0)) w)
def shape_Params.j2(R:EPq)(v0:Int)(v1:Int)(v2:Int)(t26:Bool)(w:World):Prop:=
 Cd t26 (R (.returned (.int .i64 4)) w) (Cd (v0==2) (Cl Tryz.prog 115 #[(.int .i64 v2)] (.one (.at (.int .i64))) (fun(x3:Int) w4=>
 shape_Params.j3 R (decide ((IntKind.wrap .i64 (v1+x3))>65536)) w4) w) (shape_Params.j3 R false w))
def shape_Params.j1(R:EPq)(v0:Int)(v1:Int)(v2:Int)(t11:Bool)(w:World):Prop:=
 Cd t11 (R (.returned (.int .i64 4)) w) (Cd (v0 !=2) (shape_Params.j2 R v0 v1 v2 (decide ((IntKind.wrap .i64 (v1+v2))>256)) w) (shape_Params.j2 R v0 v1 v2 false w))
def shape_Params.M(R:EPq)(v0:Int)(v1:Int)(v2:Int)(w:World):Prop:=
 Cl Tryz.prog 114 #[(.int .i64 v0)] (.one (.at .bool)) (fun(x1:Bool) w2=>
 Cd (!x1) (R (.returned (.int .i64 2)) w2) (Cd (decide (v1<1)) (shape_Params.j1 R v0 v1 v2 true w2) (Cd (decide (v2<1)) (shape_Params.j1 R v0 v1 v2 true w2) (Cd (decide (v1>65536)) (shape_Params.j1 R v0 v1 v2 true w2) (shape_Params.j1 R v0 v1 v2 (decide (v2>65536)) w2))))) w
noncomputable def shape_Params.ann(R:EPq):Ann:=
 .seq (.reg qN1) (.seq (.block (.seq (.reg (.op 0 .now (.op 1 (.cl (.one (.at .bool))) (.op 2 .now (.op 3 .now (.done)))))) (.cond (.seq (.reg qN1) (.leaf)) (.join [(0,qcI),(1,qcI),(2,qcI),(11,.at .bool)] (fun s w=>shape_Params.j1 R s.1 s.2.1 s.2.2.1 s.2.2.2.1 w) (.reg (.op 0 .now (.op 1 .now (.op 2 .now (.split 2 (.skip 3 (.skip 4 (.op 5 .now (.op 6 .now (.skip 7 (.skip 8 (.op 9 .now (.op 10 .now (.skip 11 (.skip 12 (.op 13 .now (.op 14 .now (.done))))))))))))) (.op 3 .now (.op 4 .now (.op 5 .now (.op 6 .now (.split 6 (.skip 7 (.skip 8 (.op 9 .now (.op 10 .now (.skip 11 (.skip 12 (.op 13 .now (.op 14 .now (.done))))))))) (.op 7 .now (.op 8 .now (.op 9 .now (.op 10 .now (.split 10 (.skip 11 (.skip 12 (.op 13 .now (.op 14 .now (.done))))) (.op 11 .now (.op 12 .now (.op 13 .now (.op 14 .now (.done)))))))))))))))))))) (.cond (.seq (.reg qN1) (.leaf)) (.join [(0,qcI),(1,qcI),(2,qcI),(26,.at .bool)] (fun s w=>shape_Params.j2 R s.1 s.2.1 s.2.2.1 s.2.2.2.1 w) (.reg (.op 0 .now (.op 1 .now (.op 2 .now (.split 2 (.op 3 .now (.op 4 .now (.op 5 .now (.op 6 .now (.op 7 .now (.op 8 .now (.done))))))) (.skip 3 (.skip 4 (.skip 5 (.skip 6 (.op 7 .now (.op 8 .now (.done)))))))))))) (.cond (.seq (.reg qN1) (.leaf)) (.join [(35,.at .bool)] (fun s w=>shape_Params.j3 R s.1 w) (.reg (.op 0 .now (.op 1 .now (.op 2 .now (.split 2 (.op 3 .now (.op 4 .now (.op 5 (.cl (.one qcI)) (.op 6 .now (.op 7 .now (.op 8 .now (.op 9 .now (.done)))))))) (.skip 3 (.skip 4 (.skip 5 (.skip 6 (.skip 7 (.op 8 .now (.op 9 .now (.done))))))))))))) (.cond (.seq (.reg qN1) (.leaf)) (.leaf)))))))))) (.seq (.reg qN1) (.leaf)))
theorem shape_Params.run(R:EPq)(v0:Int)(v1:Int)(v2:Int)(w:World)(h:shape_Params.M R v0 v1 v2 w):Calls Tryz.prog 87 #[(.int .i64 v0),(.int .i64 v1),(.int .i64 v2)] w R:=by
 refine aaZ aDZ Tryz.func87 (c:=shape_Params.body) (by kernel_rfl) [.at (.int .i64)] (shape_Params.ann R) 45 Tryz.ntmps87 [.tmp 6] (by kernel_rfl) (Nat.le_of_ble_eq_true (by kernel_rfl)) ?_ ?_
 ·exact⟨tv,⟨⟨tv,⟨⟨tv,tv⟩,⟨fun s w=>mq,tv,⟨⟨tv,tv⟩,⟨fun s w=>mq,tv,⟨⟨tv,tv⟩,⟨fun s w=>mq,tv,⟨⟨tv,tv⟩,tv⟩⟩⟩⟩⟩⟩⟩⟩,⟨tv,tv⟩⟩⟩
 ·exact Eq.mp (show shape_Params.M R v0 v1 v2 w=_ by kernel_rfl) h
noncomputable def matrix_Identity.body:Code:=(Tryz.f89.body).getD .skip
def matrix_Identity.b1(R:EPq)(k1:(Sl×Int×Int×Unit)→WPq)(v4:Sl)(t16:Int)(t17:Int)(w:World):Prop:=
 Cd (decide (t17<t16)) (Pu Tryz.prog (Instr.indexAt 30 (.slice v4.base v4.len v4.cap) (.int .i64 t17)) (.one (.at .addr)) (fun(x3:Addr) w4=>
 Rd Tryz.prog (Instr.loadAt 24 (.pointer (some x3))) (.one (.at .sl)) (fun(x5:Sl) w6=>
 Pu Tryz.prog (Instr.indexAt 24 (.slice x5.base x5.len x5.cap) (.int .i64 t17)) (.one (.at .addr)) (fun(x7:Addr) w8=>
 Wu Tryz.prog (Instr.storeAt 5 (.pointer (some x7)) (.int .u8 1)) (fun w9=>
 k1 (v4,t16,(IntKind.wrap .i64 (t17+1)),()) w9) w8) w6) w4) w) (R (.returned (.tuple #[(.slice v4.base v4.len v4.cap),(.int .i64 0)])) w)
def matrix_Identity.l1(R:EPq):(Sl×Int×Int×Unit)→World→Prop:=arZ (fun k1 s w=>matrix_Identity.b1 R k1 s.1 s.2.1 s.2.2.1 w)
def matrix_Identity.j1(R:EPq)(v0:Int)(t11:Bool)(w:World):Prop:=
 Cd t11 (R (.returned (.tuple #[(.slice none 0 0),(.int .i64 100)])) w) (Cl Tryz.prog 91 #[(.int .i64 v0),(.int .i64 v0)] (.one (.at .sl)) (fun(x1:Sl) w2=>
 matrix_Identity.l1 R (x1,((x1.len:Nat):Int),0,()) w2) w)
def matrix_Identity.M(R:EPq)(v0:Int)(w:World):Prop:=
 Cd (decide (v0<1)) (matrix_Identity.j1 R v0 true w) (matrix_Identity.j1 R v0 (decide (v0>256)) w)
noncomputable def matrix_Identity.ann(R:EPq):Ann:=
 .seq (.reg qN2) (.seq (.join [(0,qcI),(11,.at .bool)] (fun s w=>matrix_Identity.j1 R s.1 s.2.1 w) (.reg (.op 0 .now (.op 1 .now (.op 2 .now (.split 2 (.skip 3 (.skip 4 (.op 5 .now (.done)))) (.op 3 .now (.op 4 .now (.op 5 .now (.done))))))))) (.cond (.seq (.reg qN2) (.leaf)) (.leaf))) (.seq (.reg (.op 0 .now (.op 1 .now (.op 2 (.cl (.one qcS)) (.op 3 .now (.done)))))) (.seq (.seq (.reg qN3) (.block (.loop [(4,qcS),(16,qcI),(17,qcI)] (fun k1 s w=>matrix_Identity.b1 R k1 s.1 s.2.1 s.2.2.1 w) (fun k1=>.seq (.reg qN1) (.seq (.cond (.leaf) (.leaf)) (.seq (.block (.seq (.reg qN2) (.reg (.op 0 .now (.op 1 .now (.op 2 qpA (.op 3 qrS (.op 4 .now (.op 5 qpA (.op 6 .wu (.done))))))))))) (.reg qN2))))))) (.seq (.reg qN3) (.leaf)))))
theorem matrix_Identity.run(R:EPq)(v0:Int)(w:World)(h:matrix_Identity.M R v0 w):Calls Tryz.prog 89 #[(.int .i64 v0)] w R:=by
 refine aaZ aDZ Tryz.func89 (c:=matrix_Identity.body) (by kernel_rfl) [.at .sl,.at (.int .i64)] (matrix_Identity.ann R) 28 Tryz.ntmps89 [.tmp 2,.tmp 3] (by kernel_rfl) (Nat.le_of_ble_eq_true (by kernel_rfl)) ?_ ?_
 ·exact⟨tv,⟨⟨fun s w=>mq,tv,⟨⟨tv,tv⟩,tv⟩⟩,⟨tv,⟨⟨tv,(fun k1=>⟨fun s w=>mq,⟨tv,⟨⟨tv,tv⟩,⟨⟨tv,tv⟩,tv⟩⟩⟩⟩)⟩,⟨tv,tv⟩⟩⟩⟩⟩
 ·exact Eq.mp (show matrix_Identity.M R v0 w=_ by kernel_rfl) h
noncomputable def matrix_Check.body:Code:=(Tryz.f90.body).getD .skip
def matrix_Check.b1(R:EPq)(k1:(Sl×Sl×Int×Int×Unit)→WPq)(v0:Sl)(t27:Sl)(t28:Int)(t29:Int)(w:World):Prop:=
 Cd (decide (t29<t28)) (Pu Tryz.prog (Instr.indexAt 30 (.slice t27.base t27.len t27.cap) (.int .i64 t29)) (.one (.at .addr)) (fun(x1:Addr) w2=>
 Rd Tryz.prog (Instr.loadAt 24 (.pointer (some x1))) (.one (.at .sl)) (fun(x3:Sl) w4=>
 Pu Tryz.prog (Instr.indexAt 30 (.slice v0.base v0.len v0.cap) (.int .i64 0)) (.one (.at .addr)) (fun(x5:Addr) w6=>
 Rd Tryz.prog (Instr.loadAt 24 (.pointer (some x5))) (.one (.at .sl)) (fun(x7:Sl) w8=>
 Cd (((x3.len:Nat):Int) !=((x7.len:Nat):Int)) (R (.returned (.int .i64 100)) w8) (k1 (v0,t27,t28,(IntKind.wrap .i64 (t29+1)),()) w8)) w6) w4) w2) w) (R (.returned (.int .i64 0)) w)
def matrix_Check.l1(R:EPq):(Sl×Sl×Int×Int×Unit)→World→Prop:=arZ (fun k1 s w=>matrix_Check.b1 R k1 s.1 s.2.1 s.2.2.1 s.2.2.2.1 w)
def matrix_Check.j1(R:EPq)(v0:Sl)(t26:Bool)(w:World):Prop:=
 Cd t26 (R (.returned (.int .i64 100)) w) (matrix_Check.l1 R (v0,v0,((v0.len:Nat):Int),0,()) w)
def matrix_Check.M(R:EPq)(v0:Sl)(w:World):Prop:=
 Cd (decide (((v0.len:Nat):Int)<1)) (matrix_Check.j1 R v0 true w) (Cd (decide (((v0.len:Nat):Int)>256)) (matrix_Check.j1 R v0 true w) (Pu Tryz.prog (Instr.indexAt 30 (.slice v0.base v0.len v0.cap) (.int .i64 0)) (.one (.at .addr)) (fun(x9:Addr) w10=>
 Rd Tryz.prog (Instr.loadAt 24 (.pointer (some x9))) (.one (.at .sl)) (fun(x11:Sl) w12=>
 Cd (decide (((x11.len:Nat):Int)<1)) (matrix_Check.j1 R v0 true w12) (Pu Tryz.prog (Instr.indexAt 30 (.slice v0.base v0.len v0.cap) (.int .i64 0)) (.one (.at .addr)) (fun(x13:Addr) w14=>
 Rd Tryz.prog (Instr.loadAt 24 (.pointer (some x13))) (.one (.at .sl)) (fun(x15:Sl) w16=>
 matrix_Check.j1 R v0 (decide (((x15.len:Nat):Int)>512)) w16) w14) w12)) w10) w))
noncomputable def matrix_Check.ann(R:EPq):Ann:=
 .seq (.reg qN1) (.seq (.join [(0,qcS),(26,.at .bool)] (fun s w=>matrix_Check.j1 R s.1 s.2.1 w) (.reg (.op 0 .now (.op 1 .now (.op 2 .now (.op 3 .now (.split 3 (.skip 4 (.skip 5 (.skip 6 (.op 7 .now (.op 8 .now (.skip 9 (.skip 10 (.skip 11 (.skip 12 (.skip 13 (.op 14 .now (.op 15 .now (.skip 16 (.skip 17 (.skip 18 (.skip 19 (.skip 20 (.op 21 .now (.done))))))))))))))))))) (.op 4 .now (.op 5 .now (.op 6 .now (.op 7 .now (.op 8 .now (.split 8 (.skip 9 (.skip 10 (.skip 11 (.skip 12 (.skip 13 (.op 14 .now (.op 15 .now (.skip 16 (.skip 17 (.skip 18 (.skip 19 (.skip 20 (.op 21 .now (.done)))))))))))))) (.op 9 .now (.op 10 qpA (.op 11 qrS (.op 12 .now (.op 13 .now (.op 14 .now (.op 15 .now (.split 15 (.skip 16 (.skip 17 (.skip 18 (.skip 19 (.skip 20 (.op 21 .now (.done))))))) (.op 16 .now (.op 17 qpA (.op 18 qrS (.op 19 .now (.op 20 .now (.op 21 .now (.done))))))))))))))))))))))))))) (.cond (.seq (.reg qN1) (.leaf)) (.leaf))) (.seq (.seq (.reg qN3) (.block (.loop [(0,qcS),(27,qcS),(28,qcI),(29,qcI)] (fun k1 s w=>matrix_Check.b1 R k1 s.1 s.2.1 s.2.2.1 s.2.2.2.1 w) (fun k1=>.seq (.reg qN1) (.seq (.cond (.leaf) (.leaf)) (.seq (.block (.seq (.reg (.op 0 qpA (.op 1 qrS (.op 2 .now (.done))))) (.seq (.reg (.op 0 .now (.op 1 .now (.op 2 .now (.op 3 qpA (.op 4 qrS (.op 5 .now (.op 6 .now (.done))))))))) (.cond (.seq (.reg qN1) (.leaf)) (.leaf))))) (.reg qN2))))))) (.seq (.reg qN1) (.leaf))))
theorem matrix_Check.run(R:EPq)(v0:Sl)(w:World)(h:matrix_Check.M R v0 w):Calls Tryz.prog 90 #[(.slice v0.base v0.len v0.cap)] w R:=by
 refine aaZ aDZ Tryz.func90 (c:=matrix_Check.body) (by kernel_rfl) [.at (.int .i64)] (matrix_Check.ann R) 41 Tryz.ntmps90 [.tmp 2] (by kernel_rfl) (Nat.le_of_ble_eq_true (by kernel_rfl)) ?_ ?_
 ·exact⟨tv,⟨⟨fun s w=>mq,tv,⟨⟨tv,tv⟩,tv⟩⟩,⟨⟨tv,(fun k1=>⟨fun s w=>mq,⟨tv,⟨⟨tv,tv⟩,⟨⟨tv,⟨tv,⟨⟨tv,tv⟩,tv⟩⟩⟩,tv⟩⟩⟩⟩)⟩,⟨tv,tv⟩⟩⟩⟩
 ·exact Eq.mp (show matrix_Check.M R v0 w=_ by kernel_rfl) h
noncomputable def matrix_blank.body:Code:=(Tryz.f91.body).getD .skip
def matrix_blank.b1(R:EPq)(k1:(Int×Sl×Int×Int×Unit)→WPq)(v1:Int)(v5:Sl)(t10:Int)(t11:Int)(w:World):Prop:=
 Cd (decide (t11<t10)) (Wr Tryz.prog (Instr.makeSlice 24 (.int .i64 v1) (.int .i64 v1)) (.one (.at .sl)) (fun(x3:Sl) w4=>
 Pu Tryz.prog (Instr.indexAt 30 (.slice v5.base v5.len v5.cap) (.int .i64 t11)) (.one (.at .addr)) (fun(x5:Addr) w6=>
 Wu Tryz.prog (Instr.storeAt 24 (.pointer (some x5)) (.slice x3.base x3.len x3.cap)) (fun w7=>
 k1 (v1,v5,t10,(IntKind.wrap .i64 (t11+1)),()) w7) w6) w4) w) (R (.returned (.slice v5.base v5.len v5.cap)) w)
def matrix_blank.l1(R:EPq):(Int×Sl×Int×Int×Unit)→World→Prop:=arZ (fun k1 s w=>matrix_blank.b1 R k1 s.1 s.2.1 s.2.2.1 s.2.2.2.1 w)
def matrix_blank.M(R:EPq)(v0:Int)(v1:Int)(w:World):Prop:=
 Wr Tryz.prog (Instr.makeSlice 30 (.int .i64 v0) (.int .i64 v0)) (.one (.at .sl)) (fun(x1:Sl) w2=>
 matrix_blank.l1 R (v1,x1,((x1.len:Nat):Int),0,()) w2) w
noncomputable def matrix_blank.ann(R:EPq):Ann:=
 .seq (.reg qN1) (.seq (.reg (.op 0 .now (.op 1 (.wr (.one qcS)) (.op 2 .now (.done))))) (.seq (.seq (.reg qN3) (.block (.loop [(1,qcI),(5,qcS),(10,qcI),(11,qcI)] (fun k1 s w=>matrix_blank.b1 R k1 s.1 s.2.1 s.2.2.1 s.2.2.2.1 w) (fun k1=>.seq (.reg qN1) (.seq (.cond (.leaf) (.leaf)) (.seq (.block (.seq (.reg qN2) (.reg (.op 0 .now (.op 1 .now (.op 2 .now (.op 3 (.wr (.one qcS)) (.op 4 qpA (.op 5 .wu (.done)))))))))) (.reg qN2))))))) (.seq (.reg qN2) (.leaf))))
theorem matrix_blank.run(R:EPq)(v0:Int)(v1:Int)(w:World)(h:matrix_blank.M R v0 v1 w):Calls Tryz.prog 91 #[(.int .i64 v0),(.int .i64 v1)] w R:=by
 refine aaZ aDZ Tryz.func91 (c:=matrix_blank.body) (by kernel_rfl) [.at .sl] (matrix_blank.ann R) 21 Tryz.ntmps91 [.tmp 4] (by kernel_rfl) (Nat.le_of_ble_eq_true (by kernel_rfl)) ?_ ?_
 ·exact⟨tv,⟨tv,⟨⟨tv,(fun k1=>⟨fun s w=>mq,⟨tv,⟨⟨tv,tv⟩,⟨⟨tv,tv⟩,tv⟩⟩⟩⟩)⟩,⟨tv,tv⟩⟩⟩⟩
 ·exact Eq.mp (show matrix_blank.M R v0 v1 w=_ by kernel_rfl) h
noncomputable def matrix_Solve.body:Code:=(Tryz.f92.body).getD .skip
def matrix_Solve.b2(R:EPq)(k2:(Int×Sl×Sl×Int×Int×Unit)→WPq)(v6:Int)(v7:Sl)(v11:Sl)(t86:Int)(t87:Int)(w:World):Prop:=
 Cd (decide (t87<t86)) (Held w.drew (fun S39=>Pu Tryz.prog (Instr.indexAt 30 (.slice v11.base v11.len v11.cap) (.int .i64 t87)) (.one (.at .addr)) (fun(x40:Addr) w41=>
 RdS Tryz.prog S39 (Instr.loadAt 24 (.pointer (some x40))) (.one (.at .sl)) (fun(x42:Sl) w43=>
 Pu Tryz.prog (Instr.indexAt 30 (.slice v7.base v7.len v7.cap) (.int .i64 t87)) (.one (.at .addr)) (fun(x44:Addr) w45=>
 RdS Tryz.prog S39 (Instr.loadAt 24 (.pointer (some x44))) (.one (.at .sl)) (fun(x46:Sl) w47=>
 Pu Tryz.prog (Instr.sliceAt 24 (.slice x46.base x46.len x46.cap) (some (.int .i64 v6)) none none) (.one (.at .sl)) (fun(x48:Sl) w49=>
 Wr Tryz.prog (Builtin.copy_ #[24,24] 3 #[(.slice x42.base x42.len x42.cap),(.slice x48.base x48.len x48.cap)]) (.one (.at (.int .i64))) (fun(x50:Int) w51=>
 S39 w51∧(k2 (v6,v7,v11,t86,(IntKind.wrap .i64 (t87+1)),()) w51)) w49) w47) w45) w43) w41) w.drew)) (R (.returned (.tuple #[(.slice v11.base v11.len v11.cap),(.int .i64 0)])) w)
def matrix_Solve.l2(R:EPq):(Int×Sl×Sl×Int×Int×Unit)→World→Prop:=arZ (fun k2 s w=>matrix_Solve.b2 R k2 s.1 s.2.1 s.2.2.1 s.2.2.2.1 s.2.2.2.2.1 w)
def matrix_Solve.b1(R:EPq)(k1:(Sl×Sl×Int×Sl×Int×Int×Unit)→WPq)(v0:Sl)(v1:Sl)(v6:Int)(v7:Sl)(t44:Int)(t45:Int)(w:World):Prop:=
 Cd (decide (t45<t44)) (Held w.drew (fun S7=>Pu Tryz.prog (Instr.indexAt 30 (.slice v7.base v7.len v7.cap) (.int .i64 t45)) (.one (.at .addr)) (fun(x8:Addr) w9=>
 RdS Tryz.prog S7 (Instr.loadAt 24 (.pointer (some x8))) (.one (.at .sl)) (fun(x10:Sl) w11=>
 Pu Tryz.prog (Instr.indexAt 30 (.slice v0.base v0.len v0.cap) (.int .i64 t45)) (.one (.at .addr)) (fun(x12:Addr) w13=>
 RdS Tryz.prog S7 (Instr.loadAt 24 (.pointer (some x12))) (.one (.at .sl)) (fun(x14:Sl) w15=>
 Wr Tryz.prog (Builtin.copy_ #[24,24] 3 #[(.slice x10.base x10.len x10.cap),(.slice x14.base x14.len x14.cap)]) (.one (.at (.int .i64))) (fun(x16:Int) w17=>
 S7 w17∧(Held w17.drew (fun S18=>Pu Tryz.prog (Instr.indexAt 30 (.slice v7.base v7.len v7.cap) (.int .i64 t45)) (.one (.at .addr)) (fun(x19:Addr) w20=>
 RdS Tryz.prog S18 (Instr.loadAt 24 (.pointer (some x19))) (.one (.at .sl)) (fun(x21:Sl) w22=>
 Pu Tryz.prog (Instr.sliceAt 24 (.slice x21.base x21.len x21.cap) (some (.int .i64 v6)) none none) (.one (.at .sl)) (fun(x23:Sl) w24=>
 Pu Tryz.prog (Instr.indexAt 30 (.slice v1.base v1.len v1.cap) (.int .i64 t45)) (.one (.at .addr)) (fun(x25:Addr) w26=>
 RdS Tryz.prog S18 (Instr.loadAt 24 (.pointer (some x25))) (.one (.at .sl)) (fun(x27:Sl) w28=>
 Wr Tryz.prog (Builtin.copy_ #[24,24] 3 #[(.slice x23.base x23.len x23.cap),(.slice x27.base x27.len x27.cap)]) (.one (.at (.int .i64))) (fun(x29:Int) w30=>
 S18 w30∧(k1 (v0,v1,v6,v7,t44,(IntKind.wrap .i64 (t45+1)),()) w30)) w28) w26) w24) w22) w20) w17.drew))) w15) w13) w11) w9) w.drew)) (Cl Tryz.prog 116 #[(.slice v7.base v7.len v7.cap),(.int .i64 v6)] (.tup [.at .sl,.at (.int .u8)]) (fun x31 w32=>
 Cd (decide (((x31.1.len:Nat):Int)<v6)) (R (.returned (.tuple #[(.slice none 0 0),(.int .i64 102)])) w32) (Pu Tryz.prog (Instr.indexAt 30 (.slice v1.base v1.len v1.cap) (.int .i64 0)) (.one (.at .addr)) (fun(x33:Addr) w34=>
 Rd Tryz.prog (Instr.loadAt 24 (.pointer (some x33))) (.one (.at .sl)) (fun(x35:Sl) w36=>
 Cl Tryz.prog 91 #[(.int .i64 v6),(.int .i64 ((x35.len:Nat):Int))] (.one (.at .sl)) (fun(x37:Sl) w38=>
 matrix_Solve.l2 R (v6,v7,x37,((x37.len:Nat):Int),0,()) w38) w36) w34) w32)) w)
def matrix_Solve.l1(R:EPq):(Sl×Sl×Int×Sl×Int×Int×Unit)→World→Prop:=arZ (fun k1 s w=>matrix_Solve.b1 R k1 s.1 s.2.1 s.2.2.1 s.2.2.2.1 s.2.2.2.2.1 s.2.2.2.2.2.1 w)
def matrix_Solve.j2(R:EPq)(v0:Sl)(v1:Sl)(v6:Int)(t34:Bool)(w:World):Prop:=
 Cd t34 (R (.returned (.tuple #[(.slice none 0 0),(.int .i64 101)])) w) (Pu Tryz.prog (Instr.indexAt 30 (.slice v1.base v1.len v1.cap) (.int .i64 0)) (.one (.at .addr)) (fun(x1:Addr) w2=>
 Rd Tryz.prog (Instr.loadAt 24 (.pointer (some x1))) (.one (.at .sl)) (fun(x3:Sl) w4=>
 Cl Tryz.prog 91 #[(.int .i64 v6),(.int .i64 (IntKind.wrap .i64 (v6+((x3.len:Nat):Int))))] (.one (.at .sl)) (fun(x5:Sl) w6=>
 matrix_Solve.l1 R (v0,v1,v6,x5,((x5.len:Nat):Int),0,()) w6) w4) w2) w)
def matrix_Solve.j1(R:EPq)(v0:Sl)(v1:Sl)(t20:Bool)(w:World):Prop:=
 Cd t20 (R (.returned (.tuple #[(.slice none 0 0),(.int .i64 100)])) w) (Pu Tryz.prog (Instr.indexAt 30 (.slice v0.base v0.len v0.cap) (.int .i64 0)) (.one (.at .addr)) (fun(x52:Addr) w53=>
 Rd Tryz.prog (Instr.loadAt 24 (.pointer (some x52))) (.one (.at .sl)) (fun(x54:Sl) w55=>
 Cd (((v0.len:Nat):Int) !=((x54.len:Nat):Int)) (matrix_Solve.j2 R v0 v1 ((v0.len:Nat):Int) true w55) (matrix_Solve.j2 R v0 v1 ((v0.len:Nat):Int) (((v0.len:Nat):Int) !=((v1.len:Nat):Int)) w55)) w53) w)
def matrix_Solve.M(R:EPq)(v0:Sl)(v1:Sl)(w:World):Prop:=
 Cl Tryz.prog 90 #[(.slice v0.base v0.len v0.cap)] (.one (.at (.int .i64))) (fun(x56:Int) w57=>
 Cd (x56 !=0) (matrix_Solve.j1 R v0 v1 true w57) (Cl Tryz.prog 90 #[(.slice v1.base v1.len v1.cap)] (.one (.at (.int .i64))) (fun(x58:Int) w59=>
 matrix_Solve.j1 R v0 v1 (x58 !=0) w59) w57)) w
noncomputable def matrix_Solve.ann(R:EPq):Ann:=
 .seq (.reg qN2) (.seq (.join [(0,qcS),(1,qcS),(20,.at .bool)] (fun s w=>matrix_Solve.j1 R s.1 s.2.1 s.2.2.1 w) (.reg (.op 0 .now (.op 1 (.cl (.one qcI)) (.op 2 .now (.op 3 .now (.split 3 (.skip 4 (.skip 5 (.skip 6 (.op 7 .now (.done))))) (.op 4 .now (.op 5 (.cl (.one qcI)) (.op 6 .now (.op 7 .now (.done))))))))))) (.cond (.seq (.reg qN2) (.leaf)) (.leaf))) (.seq (.reg qN3) (.seq (.join [(0,qcS),(1,qcS),(6,qcI),(34,.at .bool)] (fun s w=>matrix_Solve.j2 R s.1 s.2.1 s.2.2.1 s.2.2.2.1 w) (.reg (.op 0 .now (.op 1 .now (.op 2 qpA (.op 3 qrS (.op 4 .now (.op 5 .now (.op 6 .now (.split 6 (.skip 7 (.skip 8 (.skip 9 (.skip 10 (.op 11 .now (.done)))))) (.op 7 .now (.op 8 .now (.op 9 .now (.op 10 .now (.op 11 .now (.done))))))))))))))) (.cond (.seq (.reg qN2) (.leaf)) (.leaf))) (.seq (.reg (.op 0 .now (.op 1 .now (.op 2 .now (.op 3 qpA (.op 4 qrS (.op 5 .now (.op 6 .now (.op 7 (.cl (.one qcS)) (.op 8 .now (.done))))))))))) (.seq (.seq (.reg qN3) (.block (.loop [(0,qcS),(1,qcS),(6,qcI),(7,qcS),(44,qcI),(45,qcI)] (fun k1 s w=>matrix_Solve.b1 R k1 s.1 s.2.1 s.2.2.1 s.2.2.2.1 s.2.2.2.2.1 s.2.2.2.2.2.1 w) (fun k1=>.seq (.reg qN1) (.seq (.cond (.leaf) (.leaf)) (.seq (.block (.seq (.reg qN2) (.seq (.regD (.op 0 .now (.op 1 .now (.op 2 qpA (.op 3 qrS (.op 4 .now (.op 5 .now (.op 6 qpA (.op 7 qrS (.op 8 (.wr (.one qcI)) (.done))))))))))) (.regD (.op 0 .now (.op 1 .now (.op 2 qpA (.op 3 qrS (.op 4 .now (.op 5 (.pu (.one qcS)) (.op 6 .now (.op 7 .now (.op 8 qpA (.op 9 qrS (.op 10 (.wr (.one qcI)) (.done)))))))))))))))) (.reg qN2))))))) (.seq (.reg (.op 0 .now (.op 1 .now (.op 2 (.cl (.tup [.at .sl,.at (.int .u8)])) (.op 3 .now (.op 4 .now (.op 5 .now (.op 6 .now (.op 7 .now (.done)))))))))) (.seq (.seq (.reg qN4) (.cond (.seq (.reg qN2) (.leaf)) (.leaf))) (.seq (.reg (.op 0 .now (.op 1 .now (.op 2 qpA (.op 3 qrS (.op 4 .now (.op 5 (.cl (.one qcS)) (.op 6 .now (.done))))))))) (.seq (.seq (.reg qN3) (.block (.loop [(6,qcI),(7,qcS),(11,qcS),(86,qcI),(87,qcI)] (fun k2 s w=>matrix_Solve.b2 R k2 s.1 s.2.1 s.2.2.1 s.2.2.2.1 s.2.2.2.2.1 w) (fun k2=>.seq (.reg qN1) (.seq (.cond (.leaf) (.leaf)) (.seq (.block (.seq (.reg qN2) (.regD (.op 0 .now (.op 1 .now (.op 2 qpA (.op 3 qrS (.op 4 .now (.op 5 .now (.op 6 qpA (.op 7 qrS (.op 8 .now (.op 9 (.pu (.one qcS)) (.op 10 (.wr (.one qcI)) (.done))))))))))))))) (.reg qN2))))))) (.seq (.reg qN3) (.leaf)))))))))))
theorem matrix_Solve.run(R:EPq)(v0:Sl)(v1:Sl)(w:World)(h:matrix_Solve.M R v0 v1 w):Calls Tryz.prog 92 #[(.slice v0.base v0.len v0.cap),(.slice v1.base v1.len v1.cap)] w R:=by
 refine aaZ aDZ Tryz.func92 (c:=matrix_Solve.body) (by kernel_rfl) [.at .sl,.at (.int .i64)] (matrix_Solve.ann R) 103 Tryz.ntmps92 [.tmp 4,.tmp 5] (by kernel_rfl) (Nat.le_of_ble_eq_true (by kernel_rfl)) ?_ ?_
 ·exact⟨tv,⟨⟨fun s w=>mq,tv,⟨⟨tv,tv⟩,tv⟩⟩,⟨tv,⟨⟨fun s w=>mq,tv,⟨⟨tv,tv⟩,tv⟩⟩,⟨tv,⟨⟨tv,(fun k1=>⟨fun s w=>mq,⟨tv,⟨⟨tv,tv⟩,⟨⟨tv,⟨(show Region.noSelect _=true by kernel_rfl),(show Region.noSelect _=true by kernel_rfl)⟩⟩,tv⟩⟩⟩⟩)⟩,⟨tv,⟨⟨tv,⟨⟨tv,tv⟩,tv⟩⟩,⟨tv,⟨⟨tv,(fun k2=>⟨fun s w=>mq,⟨tv,⟨⟨tv,tv⟩,⟨⟨tv,(show Region.noSelect _=true by kernel_rfl)⟩,tv⟩⟩⟩⟩)⟩,⟨tv,tv⟩⟩⟩⟩⟩⟩⟩⟩⟩⟩⟩
 ·exact Eq.mp (show matrix_Solve.M R v0 v1 w=_ by kernel_rfl) h
noncomputable def matrix_Pick.body:Code:=(Tryz.f68.body).getD .skip
def matrix_Pick.j2(R:EPq)(k1:(Sl×Sl×Sl×Int×Int×Unit)→WPq)(v0:Sl)(v1:Sl)(t22:Sl)(t23:Int)(t24:Int)(t35:Bool)(w:World):Prop:=
 Cd t35 (R (.returned (.tuple #[(.slice none 0 0),(.int .i64 7)])) w) (k1 (v0,v1,t22,t23,(IntKind.wrap .i64 (t24+1)),()) w)
def matrix_Pick.b2(R:EPq)(k2:(Sl×Sl×Sl×Int×Int×Unit)→WPq)(v0:Sl)(v8:Sl)(t44:Sl)(t45:Int)(t46:Int)(w:World):Prop:=
 Cd (decide (t46<t45)) (Pu Tryz.prog (Instr.indexAt 25 (.slice t44.base t44.len t44.cap) (.int .i64 t46)) (.one (.at .addr)) (fun(x13:Addr) w14=>
 Rd Tryz.prog (Instr.loadAt 3 (.pointer (some x13))) (.one (.at (.int .i64))) (fun(x15:Int) w16=>
 Held w16.drew (fun S17=>Pu Tryz.prog (Instr.indexAt 30 (.slice v8.base v8.len v8.cap) (.int .i64 t46)) (.one (.at .addr)) (fun(x18:Addr) w19=>
 RdS Tryz.prog S17 (Instr.loadAt 24 (.pointer (some x18))) (.one (.at .sl)) (fun(x20:Sl) w21=>
 Pu Tryz.prog (Instr.indexAt 30 (.slice v0.base v0.len v0.cap) (.int .i64 x15)) (.one (.at .addr)) (fun(x22:Addr) w23=>
 RdS Tryz.prog S17 (Instr.loadAt 24 (.pointer (some x22))) (.one (.at .sl)) (fun(x24:Sl) w25=>
 Wr Tryz.prog (Builtin.copy_ #[24,24] 3 #[(.slice x20.base x20.len x20.cap),(.slice x24.base x24.len x24.cap)]) (.one (.at (.int .i64))) (fun(x26:Int) w27=>
 S17 w27∧(k2 (v0,v8,t44,t45,(IntKind.wrap .i64 (t46+1)),()) w27)) w25) w23) w21) w19) w16.drew)) w14) w) (R (.returned (.tuple #[(.slice v8.base v8.len v8.cap),(.int .i64 0)])) w)
def matrix_Pick.l2(R:EPq):(Sl×Sl×Sl×Int×Int×Unit)→World→Prop:=arZ (fun k2 s w=>matrix_Pick.b2 R k2 s.1 s.2.1 s.2.2.1 s.2.2.2.1 s.2.2.2.2.1 w)
def matrix_Pick.b1(R:EPq)(k1:(Sl×Sl×Sl×Int×Int×Unit)→WPq)(v0:Sl)(v1:Sl)(t22:Sl)(t23:Int)(t24:Int)(w:World):Prop:=
 Cd (decide (t24<t23)) (Pu Tryz.prog (Instr.indexAt 25 (.slice t22.base t22.len t22.cap) (.int .i64 t24)) (.one (.at .addr)) (fun(x3:Addr) w4=>
 Rd Tryz.prog (Instr.loadAt 3 (.pointer (some x3))) (.one (.at (.int .i64))) (fun(x5:Int) w6=>
 Cd (decide (x5<0)) (matrix_Pick.j2 R k1 v0 v1 t22 t23 t24 true w6) (matrix_Pick.j2 R k1 v0 v1 t22 t23 t24 (decide (x5≥((v0.len:Nat):Int))) w6)) w4) w) (Pu Tryz.prog (Instr.indexAt 30 (.slice v0.base v0.len v0.cap) (.int .i64 0)) (.one (.at .addr)) (fun(x7:Addr) w8=>
 Rd Tryz.prog (Instr.loadAt 24 (.pointer (some x7))) (.one (.at .sl)) (fun(x9:Sl) w10=>
 Cl Tryz.prog 91 #[(.int .i64 ((v1.len:Nat):Int)),(.int .i64 ((x9.len:Nat):Int))] (.one (.at .sl)) (fun(x11:Sl) w12=>
 matrix_Pick.l2 R (v0,x11,v1,((v1.len:Nat):Int),0,()) w12) w10) w8) w)
def matrix_Pick.l1(R:EPq):(Sl×Sl×Sl×Int×Int×Unit)→World→Prop:=arZ (fun k1 s w=>matrix_Pick.b1 R k1 s.1 s.2.1 s.2.2.1 s.2.2.2.1 s.2.2.2.2.1 w)
def matrix_Pick.j1(R:EPq)(v0:Sl)(v1:Sl)(t21:Bool)(w:World):Prop:=
 Cd t21 (R (.returned (.tuple #[(.slice none 0 0),(.int .i64 7)])) w) (matrix_Pick.l1 R (v0,v1,v1,((v1.len:Nat):Int),0,()) w)
def matrix_Pick.M(R:EPq)(v0:Sl)(v1:Sl)(w:World):Prop:=
 Cl Tryz.prog 90 #[(.slice v0.base v0.len v0.cap)] (.one (.at (.int .i64))) (fun(x1:Int) w2=>
 Cd (x1 !=0) (R (.returned (.tuple #[(.slice none 0 0),(.int .i64 100)])) w2) (Cd (decide (((v1.len:Nat):Int)<1)) (matrix_Pick.j1 R v0 v1 true w2) (matrix_Pick.j1 R v0 v1 (decide (((v1.len:Nat):Int)>256)) w2))) w
noncomputable def matrix_Pick.ann(R:EPq):Ann:=
 .seq (.reg qN2) (.seq (.seq (.reg (.op 0 .now (.op 1 (.cl (.one qcI)) (.op 2 .now (.done))))) (.cond (.seq (.reg qN2) (.leaf)) (.leaf))) (.seq (.join [(0,qcS),(1,qcS),(21,.at .bool)] (fun s w=>matrix_Pick.j1 R s.1 s.2.1 s.2.2.1 w) (.reg (.op 0 .now (.op 1 .now (.op 2 .now (.op 3 .now (.split 3 (.skip 4 (.skip 5 (.skip 6 (.op 7 .now (.done))))) (.op 4 .now (.op 5 .now (.op 6 .now (.op 7 .now (.done))))))))))) (.cond (.seq (.reg qN2) (.leaf)) (.leaf))) (.seq (.seq (.reg qN3) (.block (.loop [(0,qcS),(1,qcS),(22,qcS),(23,qcI),(24,qcI)] (fun k1 s w=>matrix_Pick.b1 R k1 s.1 s.2.1 s.2.2.1 s.2.2.2.1 s.2.2.2.2.1 w) (fun k1=>.seq (.reg qN1) (.seq (.cond (.leaf) (.leaf)) (.seq (.block (.seq (.reg (.op 0 qpA (.op 1 (.rd (.one qcI)) (.op 2 .now (.done))))) (.join [(0,qcS),(1,qcS),(22,qcS),(23,qcI),(24,qcI),(35,.at .bool)] (fun s w=>matrix_Pick.j2 R k1 s.1 s.2.1 s.2.2.1 s.2.2.2.1 s.2.2.2.2.1 s.2.2.2.2.2.1 w) (.reg (.op 0 .now (.op 1 .now (.op 2 .now (.split 2 (.skip 3 (.skip 4 (.skip 5 (.skip 6 (.op 7 .now (.done)))))) (.op 3 .now (.op 4 .now (.op 5 .now (.op 6 .now (.op 7 .now (.done))))))))))) (.cond (.seq (.reg qN2) (.leaf)) (.leaf))))) (.reg qN2))))))) (.seq (.reg (.op 0 .now (.op 1 .now (.op 2 .now (.op 3 qpA (.op 4 qrS (.op 5 .now (.op 6 (.cl (.one qcS)) (.op 7 .now (.done)))))))))) (.seq (.seq (.reg qN3) (.block (.loop [(0,qcS),(8,qcS),(44,qcS),(45,qcI),(46,qcI)] (fun k2 s w=>matrix_Pick.b2 R k2 s.1 s.2.1 s.2.2.1 s.2.2.2.1 s.2.2.2.2.1 w) (fun k2=>.seq (.reg qN1) (.seq (.cond (.leaf) (.leaf)) (.seq (.block (.seq (.reg (.op 0 .now (.op 1 qpA (.op 2 (.rd (.one qcI)) (.op 3 .now (.op 4 .now (.done))))))) (.regD (.op 0 .now (.op 1 .now (.op 2 qpA (.op 3 qrS (.op 4 .now (.op 5 .now (.op 6 qpA (.op 7 qrS (.op 8 (.wr (.one qcI)) (.done))))))))))))) (.reg qN2))))))) (.seq (.reg qN3) (.leaf)))))))
theorem matrix_Pick.run(R:EPq)(v0:Sl)(v1:Sl)(w:World)(h:matrix_Pick.M R v0 v1 w):Calls Tryz.prog 68 #[(.slice v0.base v0.len v0.cap),(.slice v1.base v1.len v1.cap)] w R:=by
 refine aaZ aDZ Tryz.func68 (c:=matrix_Pick.body) (by kernel_rfl) [.at .sl,.at (.int .i64)] (matrix_Pick.ann R) 62 Tryz.ntmps68 [.tmp 4,.tmp 5] (by kernel_rfl) (Nat.le_of_ble_eq_true (by kernel_rfl)) ?_ ?_
 ·exact⟨tv,⟨⟨tv,⟨⟨tv,tv⟩,tv⟩⟩,⟨⟨fun s w=>mq,tv,⟨⟨tv,tv⟩,tv⟩⟩,⟨⟨tv,(fun k1=>⟨fun s w=>mq,⟨tv,⟨⟨tv,tv⟩,⟨⟨tv,⟨fun s w=>mq,tv,⟨⟨tv,tv⟩,tv⟩⟩⟩,tv⟩⟩⟩⟩)⟩,⟨tv,⟨⟨tv,(fun k2=>⟨fun s w=>mq,⟨tv,⟨⟨tv,tv⟩,⟨⟨tv,(show Region.noSelect _=true by kernel_rfl)⟩,tv⟩⟩⟩⟩)⟩,⟨tv,tv⟩⟩⟩⟩⟩⟩⟩
 ·exact Eq.mp (show matrix_Pick.M R v0 v1 w=_ by kernel_rfl) h
noncomputable def matrix_Invert.body:Code:=(Tryz.f69.body).getD .skip
def matrix_Invert.M(R:EPq)(v0:Sl)(w:World):Prop:=
 Cl Tryz.prog 90 #[(.slice v0.base v0.len v0.cap)] (.one (.at (.int .i64))) (fun(x1:Int) w2=>
 Cd (x1 !=0) (R (.returned (.tuple #[(.slice none 0 0),(.int .i64 100)])) w2) (Pu Tryz.prog (Instr.indexAt 30 (.slice v0.base v0.len v0.cap) (.int .i64 0)) (.one (.at .addr)) (fun(x3:Addr) w4=>
 Rd Tryz.prog (Instr.loadAt 24 (.pointer (some x3))) (.one (.at .sl)) (fun(x5:Sl) w6=>
 Cd (((v0.len:Nat):Int) !=((x5.len:Nat):Int)) (R (.returned (.tuple #[(.slice none 0 0),(.int .i64 101)])) w6) (Cl Tryz.prog 89 #[(.int .i64 ((v0.len:Nat):Int))] (.tup [.at .sl,.at (.int .i64)]) (fun x7 w8=>
 Cl Tryz.prog 92 #[(.slice v0.base v0.len v0.cap),(.slice x7.1.base x7.1.len x7.1.cap)] (.tup [.at .sl,.at (.int .i64)]) (fun x9 w10=>
 R (.returned (.tuple #[(.slice x9.1.base x9.1.len x9.1.cap),(.int .i64 x9.2.1)])) w10) w8) w6)) w4) w2)) w
noncomputable def matrix_Invert.ann(R:EPq):Ann:=
 .seq (.reg qN2) (.seq (.seq (.reg (.op 0 .now (.op 1 (.cl (.one qcI)) (.op 2 .now (.done))))) (.cond (.seq (.reg qN2) (.leaf)) (.leaf))) (.seq (.seq (.reg (.op 0 .now (.op 1 .now (.op 2 .now (.op 3 qpA (.op 4 qrS (.op 5 .now (.op 6 .now (.done))))))))) (.cond (.seq (.reg qN2) (.leaf)) (.leaf))) (.seq (.reg (.op 0 .now (.op 1 .now (.op 2 (.cl (.tup [.at .sl,.at (.int .i64)])) (.op 3 .now (.op 4 .now (.op 5 .now (.op 6 .now (.op 7 .now (.done)))))))))) (.seq (.reg (.op 0 .now (.op 1 .now (.op 2 (.cl (.tup [.at .sl,.at (.int .i64)])) (.op 3 .now (.op 4 .now (.op 5 .now (.op 6 .now (.done))))))))) (.leaf)))))
theorem matrix_Invert.run(R:EPq)(v0:Sl)(w:World)(h:matrix_Invert.M R v0 w):Calls Tryz.prog 69 #[(.slice v0.base v0.len v0.cap)] w R:=by
 refine aaZ aDZ Tryz.func69 (c:=matrix_Invert.body) (by kernel_rfl) [.at .sl,.at (.int .i64)] (matrix_Invert.ann R) 27 Tryz.ntmps69 [.tmp 2,.tmp 3] (by kernel_rfl) (Nat.le_of_ble_eq_true (by kernel_rfl)) ?_ ?_
 ·exact⟨tv,⟨⟨tv,⟨⟨tv,tv⟩,tv⟩⟩,⟨⟨tv,⟨⟨tv,tv⟩,tv⟩⟩,⟨tv,⟨tv,tv⟩⟩⟩⟩⟩
 ·exact Eq.mp (show matrix_Invert.M R v0 w=_ by kernel_rfl) h
noncomputable def matrix_Mul.body:Code:=(Tryz.f70.body).getD .skip
def matrix_Mul.j2(R:EPq)(k1:(Sl×(Option Addr)×Sl×Sl×Int×Int×Unit)→WPq)(k2:(Sl×(Option Addr)×Sl×Int×Sl×Int×Int×Sl×Int×Int×Unit)→WPq)(v1:Sl)(v6:(Option Addr))(v7:Sl)(v8:Int)(t37:Sl)(t38:Int)(t39:Int)(t44:Sl)(t45:Int)(t46:Int)(w:World):Prop:=
 k2 (v1,v6,v7,v8,t37,t38,t39,t44,t45,(IntKind.wrap .i64 (t46+1)),()) w
def matrix_Mul.j3(R:EPq)(k1:(Sl×(Option Addr)×Sl×Sl×Int×Int×Unit)→WPq)(k2:(Sl×(Option Addr)×Sl×Int×Sl×Int×Int×Sl×Int×Int×Unit)→WPq)(k3:(Sl×(Option Addr)×Sl×Int×Int×Sl×Int×Int×Sl×Int×Int×Sl×Int×Int×Unit)→WPq)(v1:Sl)(v6:(Option Addr))(v7:Sl)(v8:Int)(v11:Int)(t37:Sl)(t38:Int)(t39:Int)(t44:Sl)(t45:Int)(t46:Int)(t56:Sl)(t57:Int)(t58:Int)(w:World):Prop:=
 k3 (v1,v6,v7,v8,v11,t37,t38,t39,t44,t45,t46,t56,t57,(IntKind.wrap .i64 (t58+1)),()) w
def matrix_Mul.b3(R:EPq)(k1:(Sl×(Option Addr)×Sl×Sl×Int×Int×Unit)→WPq)(k2:(Sl×(Option Addr)×Sl×Int×Sl×Int×Int×Sl×Int×Int×Unit)→WPq)(k3:(Sl×(Option Addr)×Sl×Int×Int×Sl×Int×Int×Sl×Int×Int×Sl×Int×Int×Unit)→WPq)(v1:Sl)(v6:(Option Addr))(v7:Sl)(v8:Int)(v11:Int)(t37:Sl)(t38:Int)(t39:Int)(t44:Sl)(t45:Int)(t46:Int)(t56:Sl)(t57:Int)(t58:Int)(w:World):Prop:=
 Cd (decide (t58<t57)) (Pu Tryz.prog (Instr.indexAt 24 (.slice t56.base t56.len t56.cap) (.int .i64 t58)) (.one (.at .addr)) (fun(x25:Addr) w26=>
 Rd Tryz.prog (Instr.loadAt 5 (.pointer (some x25))) (.one (.at (.int .u8))) (fun(x27:Int) w28=>
 Held w28.drew (fun S29=>Pu Tryz.prog (Instr.indexAt 30 (.slice v7.base v7.len v7.cap) (.int .i64 v8)) (.one (.at .addr)) (fun(x30:Addr) w31=>
 RdS Tryz.prog S29 (Instr.loadAt 24 (.pointer (some x30))) (.one (.at .sl)) (fun(x32:Sl) w33=>
 Pu Tryz.prog (Instr.indexAt 24 (.slice x32.base x32.len x32.cap) (.int .i64 t58)) (.one (.at .addr)) (fun(x34:Addr) w35=>
 (Wr Tryz.prog (Instr.loadAt 5 (.pointer (some x34))) (.one (.at (.int .u8))) (fun(x36:Int) w37=>
 S29 w37∧(Cl Tryz.prog 94 #[(.pointer v6),(.int .u8 v11),(.int .u8 x27)] (.one (.at (.int .u8))) (fun(x38:Int) w39=>
 S29 w39∧(Pu Tryz.prog (Instr.indexAt 24 (.slice x32.base x32.len x32.cap) (.int .i64 t58)) (.one (.at .addr)) (fun(x40:Addr) w41=>
 Wu Tryz.prog (Instr.storeAt 5 (.pointer (some x40)) (.int .u8 (bXor .u8 x36 x38))) (fun w42=>
 S29 w42∧(matrix_Mul.j3 R k1 k2 k3 v1 v6 v7 v8 v11 t37 t38 t39 t44 t45 t46 t56 t57 t58 w42)) w41) w39)) w37)) w35)∧(Cl Tryz.prog 94 #[(.pointer v6),(.int .u8 v11),(.int .u8 x27)] (.one (.at (.int .u8))) (fun(x43:Int) w44=>
 S29 w44∧(Wr Tryz.prog (Instr.loadAt 5 (.pointer (some x34))) (.one (.at (.int .u8))) (fun(x45:Int) w46=>
 S29 w46∧(Pu Tryz.prog (Instr.indexAt 24 (.slice x32.base x32.len x32.cap) (.int .i64 t58)) (.one (.at .addr)) (fun(x47:Addr) w48=>
 Wu Tryz.prog (Instr.storeAt 5 (.pointer (some x47)) (.int .u8 (bXor .u8 x45 x43))) (fun w49=>
 S29 w49∧(matrix_Mul.j3 R k1 k2 k3 v1 v6 v7 v8 v11 t37 t38 t39 t44 t45 t46 t56 t57 t58 w49)) w48) w46)) w44)) w35)) w33) w31) w28.drew)) w26) w) (matrix_Mul.j2 R k1 k2 v1 v6 v7 v8 t37 t38 t39 t44 t45 t46 w)
def matrix_Mul.l3(R:EPq)(k1:(Sl×(Option Addr)×Sl×Sl×Int×Int×Unit)→WPq)(k2:(Sl×(Option Addr)×Sl×Int×Sl×Int×Int×Sl×Int×Int×Unit)→WPq):(Sl×(Option Addr)×Sl×Int×Int×Sl×Int×Int×Sl×Int×Int×Sl×Int×Int×Unit)→World→Prop:=arZ (fun k3 s w=>matrix_Mul.b3 R k1 k2 k3 s.1 s.2.1 s.2.2.1 s.2.2.2.1 s.2.2.2.2.1 s.2.2.2.2.2.1 s.2.2.2.2.2.2.1 s.2.2.2.2.2.2.2.1 s.2.2.2.2.2.2.2.2.1 s.2.2.2.2.2.2.2.2.2.1 s.2.2.2.2.2.2.2.2.2.2.1 s.2.2.2.2.2.2.2.2.2.2.2.1 s.2.2.2.2.2.2.2.2.2.2.2.2.1 s.2.2.2.2.2.2.2.2.2.2.2.2.2.1 w)
def matrix_Mul.b2(R:EPq)(k1:(Sl×(Option Addr)×Sl×Sl×Int×Int×Unit)→WPq)(k2:(Sl×(Option Addr)×Sl×Int×Sl×Int×Int×Sl×Int×Int×Unit)→WPq)(v1:Sl)(v6:(Option Addr))(v7:Sl)(v8:Int)(t37:Sl)(t38:Int)(t39:Int)(t44:Sl)(t45:Int)(t46:Int)(w:World):Prop:=
 Cd (decide (t46<t45)) (Pu Tryz.prog (Instr.indexAt 24 (.slice t44.base t44.len t44.cap) (.int .i64 t46)) (.one (.at .addr)) (fun(x17:Addr) w18=>
 Rd Tryz.prog (Instr.loadAt 5 (.pointer (some x17))) (.one (.at (.int .u8))) (fun(x19:Int) w20=>
 Cd (x19==0) (matrix_Mul.j2 R k1 k2 v1 v6 v7 v8 t37 t38 t39 t44 t45 t46 w20) (Pu Tryz.prog (Instr.indexAt 30 (.slice v1.base v1.len v1.cap) (.int .i64 t46)) (.one (.at .addr)) (fun(x21:Addr) w22=>
 Rd Tryz.prog (Instr.loadAt 24 (.pointer (some x21))) (.one (.at .sl)) (fun(x23:Sl) w24=>
 matrix_Mul.l3 R k1 k2 (v1,v6,v7,v8,x19,t37,t38,t39,t44,t45,t46,x23,((x23.len:Nat):Int),0,()) w24) w22) w20)) w18) w) (k1 (v1,v6,v7,t37,t38,(IntKind.wrap .i64 (t39+1)),()) w)
def matrix_Mul.l2(R:EPq)(k1:(Sl×(Option Addr)×Sl×Sl×Int×Int×Unit)→WPq):(Sl×(Option Addr)×Sl×Int×Sl×Int×Int×Sl×Int×Int×Unit)→World→Prop:=arZ (fun k2 s w=>matrix_Mul.b2 R k1 k2 s.1 s.2.1 s.2.2.1 s.2.2.2.1 s.2.2.2.2.1 s.2.2.2.2.2.1 s.2.2.2.2.2.2.1 s.2.2.2.2.2.2.2.1 s.2.2.2.2.2.2.2.2.1 s.2.2.2.2.2.2.2.2.2.1 w)
def matrix_Mul.b1(R:EPq)(k1:(Sl×(Option Addr)×Sl×Sl×Int×Int×Unit)→WPq)(v1:Sl)(v6:(Option Addr))(v7:Sl)(t37:Sl)(t38:Int)(t39:Int)(w:World):Prop:=
 Cd (decide (t39<t38)) (Pu Tryz.prog (Instr.indexAt 30 (.slice t37.base t37.len t37.cap) (.int .i64 t39)) (.one (.at .addr)) (fun(x13:Addr) w14=>
 Rd Tryz.prog (Instr.loadAt 24 (.pointer (some x13))) (.one (.at .sl)) (fun(x15:Sl) w16=>
 matrix_Mul.l2 R k1 (v1,v6,v7,t39,t37,t38,t39,x15,((x15.len:Nat):Int),0,()) w16) w14) w) (R (.returned (.tuple #[(.slice v7.base v7.len v7.cap),(.int .i64 0)])) w)
def matrix_Mul.l1(R:EPq):(Sl×(Option Addr)×Sl×Sl×Int×Int×Unit)→World→Prop:=arZ (fun k1 s w=>matrix_Mul.b1 R k1 s.1 s.2.1 s.2.2.1 s.2.2.2.1 s.2.2.2.2.1 s.2.2.2.2.2.1 w)
def matrix_Mul.j1(R:EPq)(v0:Sl)(v1:Sl)(t21:Bool)(w:World):Prop:=
 Cd t21 (R (.returned (.tuple #[(.slice none 0 0),(.int .i64 100)])) w) (Pu Tryz.prog (Instr.indexAt 30 (.slice v0.base v0.len v0.cap) (.int .i64 0)) (.one (.at .addr)) (fun(x1:Addr) w2=>
 Rd Tryz.prog (Instr.loadAt 24 (.pointer (some x1))) (.one (.at .sl)) (fun(x3:Sl) w4=>
 Cd (((x3.len:Nat):Int) !=((v1.len:Nat):Int)) (R (.returned (.tuple #[(.slice none 0 0),(.int .i64 101)])) w4) (Cl Tryz.prog 93 #[] (.one (.at .ptr)) (fun(x5:(Option Addr)) w6=>
 Pu Tryz.prog (Instr.indexAt 30 (.slice v1.base v1.len v1.cap) (.int .i64 0)) (.one (.at .addr)) (fun(x7:Addr) w8=>
 Rd Tryz.prog (Instr.loadAt 24 (.pointer (some x7))) (.one (.at .sl)) (fun(x9:Sl) w10=>
 Cl Tryz.prog 91 #[(.int .i64 ((v0.len:Nat):Int)),(.int .i64 ((x9.len:Nat):Int))] (.one (.at .sl)) (fun(x11:Sl) w12=>
 matrix_Mul.l1 R (v1,x5,x11,v0,((v0.len:Nat):Int),0,()) w12) w10) w8) w6) w4)) w2) w)
def matrix_Mul.M(R:EPq)(v0:Sl)(v1:Sl)(w:World):Prop:=
 Cl Tryz.prog 90 #[(.slice v0.base v0.len v0.cap)] (.one (.at (.int .i64))) (fun(x50:Int) w51=>
 Cd (x50 !=0) (matrix_Mul.j1 R v0 v1 true w51) (Cl Tryz.prog 90 #[(.slice v1.base v1.len v1.cap)] (.one (.at (.int .i64))) (fun(x52:Int) w53=>
 matrix_Mul.j1 R v0 v1 (x52 !=0) w53) w51)) w
noncomputable def matrix_Mul.ann(R:EPq):Ann:=
 .seq (.reg qN2) (.seq (.join [(0,qcS),(1,qcS),(21,.at .bool)] (fun s w=>matrix_Mul.j1 R s.1 s.2.1 s.2.2.1 w) (.reg (.op 0 .now (.op 1 (.cl (.one qcI)) (.op 2 .now (.op 3 .now (.split 3 (.skip 4 (.skip 5 (.skip 6 (.op 7 .now (.done))))) (.op 4 .now (.op 5 (.cl (.one qcI)) (.op 6 .now (.op 7 .now (.done))))))))))) (.cond (.seq (.reg qN2) (.leaf)) (.leaf))) (.seq (.seq (.reg (.op 0 .now (.op 1 qpA (.op 2 qrS (.op 3 .now (.op 4 .now (.op 5 .now (.op 6 .now (.done))))))))) (.cond (.seq (.reg qN2) (.leaf)) (.leaf))) (.seq (.reg (.op 0 (.cl (.one qcP)) (.op 1 .now (.done)))) (.seq (.reg (.op 0 .now (.op 1 .now (.op 2 .now (.op 3 qpA (.op 4 qrS (.op 5 .now (.op 6 (.cl (.one qcS)) (.op 7 .now (.done)))))))))) (.seq (.seq (.reg qN3) (.block (.loop [(1,qcS),(6,qcP),(7,qcS),(37,qcS),(38,qcI),(39,qcI)] (fun k1 s w=>matrix_Mul.b1 R k1 s.1 s.2.1 s.2.2.1 s.2.2.2.1 s.2.2.2.2.1 s.2.2.2.2.2.1 w) (fun k1=>.seq (.reg qN1) (.seq (.cond (.leaf) (.leaf)) (.seq (.block (.seq (.reg (.op 0 .now (.op 1 qpA (.op 2 qrS (.op 3 .now (.op 4 .now (.done))))))) (.seq (.reg qN3) (.block (.loop [(1,qcS),(6,qcP),(7,qcS),(8,qcI),(37,qcS),(38,qcI),(39,qcI),(44,qcS),(45,qcI),(46,qcI)] (fun k2 s w=>matrix_Mul.b2 R k1 k2 s.1 s.2.1 s.2.2.1 s.2.2.2.1 s.2.2.2.2.1 s.2.2.2.2.2.1 s.2.2.2.2.2.2.1 s.2.2.2.2.2.2.2.1 s.2.2.2.2.2.2.2.2.1 s.2.2.2.2.2.2.2.2.2.1 w) (fun k2=>.seq (.reg qN1) (.seq (.cond (.leaf) (.leaf)) (.join [(1,qcS),(6,qcP),(7,qcS),(8,qcI),(37,qcS),(38,qcI),(39,qcI),(44,qcS),(45,qcI),(46,qcI)] (fun s w=>matrix_Mul.j2 R k1 k2 s.1 s.2.1 s.2.2.1 s.2.2.2.1 s.2.2.2.2.1 s.2.2.2.2.2.1 s.2.2.2.2.2.2.1 s.2.2.2.2.2.2.2.1 s.2.2.2.2.2.2.2.2.1 s.2.2.2.2.2.2.2.2.2.1 w) (.block (.seq (.reg (.op 0 .now (.op 1 qpA (.op 2 qrB (.op 3 .now (.op 4 .now (.done))))))) (.seq (.seq (.reg qN2) (.cond (.leaf) (.leaf))) (.seq (.reg (.op 0 .now (.op 1 .now (.op 2 qpA (.op 3 qrS (.op 4 .now (.op 5 .now (.done)))))))) (.block (.loop [(1,qcS),(6,qcP),(7,qcS),(8,qcI),(11,qcB),(37,qcS),(38,qcI),(39,qcI),(44,qcS),(45,qcI),(46,qcI),(56,qcS),(57,qcI),(58,qcI)] (fun k3 s w=>matrix_Mul.b3 R k1 k2 k3 s.1 s.2.1 s.2.2.1 s.2.2.2.1 s.2.2.2.2.1 s.2.2.2.2.2.1 s.2.2.2.2.2.2.1 s.2.2.2.2.2.2.2.1 s.2.2.2.2.2.2.2.2.1 s.2.2.2.2.2.2.2.2.2.1 s.2.2.2.2.2.2.2.2.2.2.1 s.2.2.2.2.2.2.2.2.2.2.2.1 s.2.2.2.2.2.2.2.2.2.2.2.2.1 s.2.2.2.2.2.2.2.2.2.2.2.2.2.1 w) (fun k3=>.seq (.reg qN1) (.seq (.cond (.leaf) (.leaf)) (.join [(1,qcS),(6,qcP),(7,qcS),(8,qcI),(11,qcB),(37,qcS),(38,qcI),(39,qcI),(44,qcS),(45,qcI),(46,qcI),(56,qcS),(57,qcI),(58,qcI)] (fun s w=>matrix_Mul.j3 R k1 k2 k3 s.1 s.2.1 s.2.2.1 s.2.2.2.1 s.2.2.2.2.1 s.2.2.2.2.2.1 s.2.2.2.2.2.2.1 s.2.2.2.2.2.2.2.1 s.2.2.2.2.2.2.2.2.1 s.2.2.2.2.2.2.2.2.2.1 s.2.2.2.2.2.2.2.2.2.2.1 s.2.2.2.2.2.2.2.2.2.2.2.1 s.2.2.2.2.2.2.2.2.2.2.2.2.1 s.2.2.2.2.2.2.2.2.2.2.2.2.2.1 w) (.block (.seq (.reg (.op 0 .now (.op 1 qpA (.op 2 qrB (.op 3 .now (.op 4 .now (.done))))))) (.regD (.op 0 .now (.op 1 .now (.op 2 qpA (.op 3 qrS (.op 4 .now (.op 5 qpA (.op 7 .now (.op 8 .now (.op 9 .now (.fork2 6 (.wr (.one qcB)) (.op 10 (.cl (.one qcB)) (.op 11 .now (.op 12 qpA (.op 13 .wu (.done))))) 10 (.cl (.one qcB)) (.op 6 (.wr (.one qcB)) (.op 11 .now (.op 12 qpA (.op 13 .wu (.done)))))))))))))))))) (.reg qN2)))))))))) (.reg qN2))))))))) (.reg qN2))))))) (.seq (.reg qN3) (.leaf)))))))
theorem matrix_Mul.run(R:EPq)(v0:Sl)(v1:Sl)(w:World)(h:matrix_Mul.M R v0 v1 w):Calls Tryz.prog 70 #[(.slice v0.base v0.len v0.cap),(.slice v1.base v1.len v1.cap)] w R:=by
 refine aaZ aDZ Tryz.func70 (c:=matrix_Mul.body) (by kernel_rfl) [.at .sl,.at (.int .i64)] (matrix_Mul.ann R) 80 Tryz.ntmps70 [.tmp 4,.tmp 5] (by kernel_rfl) (Nat.le_of_ble_eq_true (by kernel_rfl)) ?_ ?_
 ·exact⟨tv,⟨⟨fun s w=>mq,tv,⟨⟨tv,tv⟩,tv⟩⟩,⟨⟨tv,⟨⟨tv,tv⟩,tv⟩⟩,⟨tv,⟨tv,⟨⟨tv,(fun k1=>⟨fun s w=>mq,⟨tv,⟨⟨tv,tv⟩,⟨⟨tv,⟨tv,(fun k2=>⟨fun s w=>mq,⟨tv,⟨⟨tv,tv⟩,⟨fun s w=>mq,⟨tv,⟨⟨tv,⟨tv,tv⟩⟩,⟨tv,(fun k3=>⟨fun s w=>mq,⟨tv,⟨⟨tv,tv⟩,⟨fun s w=>mq,⟨tv,(show Region.noSelect _=true by kernel_rfl)⟩,tv⟩⟩⟩⟩)⟩⟩⟩,tv⟩⟩⟩⟩)⟩⟩,tv⟩⟩⟩⟩)⟩,⟨tv,tv⟩⟩⟩⟩⟩⟩⟩
 ·exact Eq.mp (show matrix_Mul.M R v0 v1 w=_ by kernel_rfl) h
noncomputable def gener_Parity.body:Code:=(Tryz.f52.body).getD .skip
def gener_Parity.j2(R:EPq)(v0:Int)(v1:Int)(v2:Int)(t36:Bool)(w:World):Prop:=
 Cd t36 (R (.returned (.tuple #[(.slice none 0 0),(.int .i64 4)])) w) (Cd (v0==1) (Cl Tryz.prog 84 #[(.int .i64 v2),(.int .i64 v1)] (.tup [.at .sl,.at (.int .i64)]) (fun x1 w2=>
 R (.returned (.tuple #[(.slice x1.1.base x1.1.len x1.1.cap),(.int .i64 x1.2.1)])) w2) w) (Cl Tryz.prog 85 #[(.int .i64 (IntKind.wrap .i64 (v1+v2))),(.int .i64 v1)] (.tup [.at .sl,.at (.int .i64)]) (fun x3 w4=>
 Cd (x3.2.1 !=0) (R (.returned (.tuple #[(.slice none 0 0),(.int .i64 x3.2.1)])) w4) (Cl Tryz.prog 86 #[(.slice x3.1.base x3.1.len x3.1.cap)] (.tup [.at .sl,.at (.int .i64)]) (fun x5 w6=>
 Cd (x5.2.1 !=0) (R (.returned (.tuple #[(.slice none 0 0),(.int .i64 x5.2.1)])) w6) (Pu Tryz.prog (Instr.sliceAt 30 (.slice x5.1.base x5.1.len x5.1.cap) (some (.int .i64 v1)) none none) (.one (.at .sl)) (fun(x7:Sl) w8=>
 R (.returned (.tuple #[(.slice x7.base x7.len x7.cap),(.int .i64 0)])) w8) w6)) w4)) w))
def gener_Parity.j1(R:EPq)(v0:Int)(v1:Int)(v2:Int)(t16:Bool)(w:World):Prop:=
 Cd t16 (R (.returned (.tuple #[(.slice none 0 0),(.int .i64 2)])) w) (Cd (decide (v1<1)) (gener_Parity.j2 R v0 v1 v2 true w) (Cd (decide (v2<1)) (gener_Parity.j2 R v0 v1 v2 true w) (Cd (decide (v1>256)) (gener_Parity.j2 R v0 v1 v2 true w) (Cd (decide (v2>256)) (gener_Parity.j2 R v0 v1 v2 true w) (gener_Parity.j2 R v0 v1 v2 (decide ((IntKind.wrap .i64 (v1+v2))>256)) w)))))
def gener_Parity.M(R:EPq)(v0:Int)(v1:Int)(v2:Int)(w:World):Prop:=
 Cd (v0 !=0) (gener_Parity.j1 R v0 v1 v2 (v0 !=1) w) (gener_Parity.j1 R v0 v1 v2 false w)
noncomputable def gener_Parity.ann(R:EPq):Ann:=
 .seq (.reg qN2) (.seq (.join [(0,qcI),(1,qcI),(2,qcI),(16,.at .bool)] (fun s w=>gener_Parity.j1 R s.1 s.2.1 s.2.2.1 s.2.2.2.1 w) (.reg (.op 0 .now (.op 1 .now (.op 2 .now (.split 2 (.op 3 .now (.op 4 .now (.op 5 .now (.done)))) (.skip 3 (.skip 4 (.op 5 .now (.done))))))))) (.cond (.seq (.reg qN2) (.leaf)) (.leaf))) (.seq (.join [(0,qcI),(1,qcI),(2,qcI),(36,.at .bool)] (fun s w=>gener_Parity.j2 R s.1 s.2.1 s.2.2.1 s.2.2.2.1 w) (.reg (.op 0 .now (.op 1 .now (.op 2 .now (.split 2 (.skip 3 (.skip 4 (.op 5 .now (.op 6 .now (.skip 7 (.skip 8 (.op 9 .now (.op 10 .now (.skip 11 (.skip 12 (.op 13 .now (.op 14 .now (.skip 15 (.skip 16 (.skip 17 (.skip 18 (.op 19 .now (.done)))))))))))))))))) (.op 3 .now (.op 4 .now (.op 5 .now (.op 6 .now (.split 6 (.skip 7 (.skip 8 (.op 9 .now (.op 10 .now (.skip 11 (.skip 12 (.op 13 .now (.op 14 .now (.skip 15 (.skip 16 (.skip 17 (.skip 18 (.op 19 .now (.done)))))))))))))) (.op 7 .now (.op 8 .now (.op 9 .now (.op 10 .now (.split 10 (.skip 11 (.skip 12 (.op 13 .now (.op 14 .now (.skip 15 (.skip 16 (.skip 17 (.skip 18 (.op 19 .now (.done)))))))))) (.op 11 .now (.op 12 .now (.op 13 .now (.op 14 .now (.split 14 (.skip 15 (.skip 16 (.skip 17 (.skip 18 (.op 19 .now (.done)))))) (.op 15 .now (.op 16 .now (.op 17 .now (.op 18 .now (.op 19 .now (.done)))))))))))))))))))))))))) (.cond (.seq (.reg qN2) (.leaf)) (.leaf))) (.seq (.seq (.reg qN2) (.cond (.seq (.reg (.op 0 .now (.op 1 .now (.op 2 (.cl (.tup [.at .sl,.at (.int .i64)])) (.op 3 .now (.op 4 .now (.op 5 .now (.op 6 .now (.done))))))))) (.leaf)) (.leaf))) (.seq (.reg (.op 0 .now (.op 1 .now (.op 2 .now (.op 3 .now (.op 4 (.cl (.tup [.at .sl,.at (.int .i64)])) (.op 5 .now (.op 6 .now (.op 7 .now (.op 8 .now (.op 9 .now (.done)))))))))))) (.seq (.seq (.reg qN2) (.cond (.seq (.reg qN3) (.leaf)) (.leaf))) (.seq (.reg (.op 0 .now (.op 1 (.cl (.tup [.at .sl,.at (.int .i64)])) (.op 2 .now (.op 3 .now (.op 4 .now (.op 5 .now (.op 6 .now (.done))))))))) (.seq (.seq (.reg qN2) (.cond (.seq (.reg qN3) (.leaf)) (.leaf))) (.seq (.reg (.op 0 .now (.op 1 .now (.op 2 (.pu (.one qcS)) (.op 3 .now (.op 4 .now (.done))))))) (.leaf)))))))))
theorem gener_Parity.run(R:EPq)(v0:Int)(v1:Int)(v2:Int)(w:World)(h:gener_Parity.M R v0 v1 v2 w):Calls Tryz.prog 52 #[(.int .i64 v0),(.int .i64 v1),(.int .i64 v2)] w R:=by
 refine aaZ aDZ Tryz.func52 (c:=gener_Parity.body) (by kernel_rfl) [.at .sl,.at (.int .i64)] (gener_Parity.ann R) 66 Tryz.ntmps52 [.tmp 6,.tmp 7] (by kernel_rfl) (Nat.le_of_ble_eq_true (by kernel_rfl)) ?_ ?_
 ·exact⟨tv,⟨⟨fun s w=>mq,tv,⟨⟨tv,tv⟩,tv⟩⟩,⟨⟨fun s w=>mq,tv,⟨⟨tv,tv⟩,tv⟩⟩,⟨⟨tv,⟨⟨tv,tv⟩,tv⟩⟩,⟨tv,⟨⟨tv,⟨⟨tv,tv⟩,tv⟩⟩,⟨tv,⟨⟨tv,⟨⟨tv,tv⟩,tv⟩⟩,⟨tv,tv⟩⟩⟩⟩⟩⟩⟩⟩⟩
 ·exact Eq.mp (show gener_Parity.M R v0 v1 v2 w=_ by kernel_rfl) h
noncomputable def gener_Lost.body:Code:=(Tryz.f41.body).getD .skip
def gener_Lost.j2(R:EPq)(k1:(Sl×Sl×Int×Int×Unit)→WPq)(v1:Sl)(v6:Sl)(t25:Int)(t26:Int)(w:World):Prop:=
 k1 (v1,v6,t25,(IntKind.wrap .i64 (t26+1)),()) w
def gener_Lost.j3(R:EPq)(k1:(Sl×Sl×Int×Int×Unit)→WPq)(v1:Sl)(v6:Sl)(v7:Int)(t25:Int)(t26:Int)(t38:Bool)(w:World):Prop:=
 Cd t38 (Pu Tryz.prog (Instr.sliceAt 25 (.slice v1.base v1.len v1.cap) (some (.int .i64 1)) none none) (.one (.at .sl)) (fun(x5:Sl) w6=>
 gener_Lost.j2 R k1 x5 v6 t25 t26 w6) w) (Wr Tryz.prog (Instr.buildSlice 25 1 #[(0,(.int .i64 v7))]) (.one (.at .sl)) (fun(x7:Sl) w8=>
 Wr Tryz.prog (Builtin.append_ #[25,25] 25 #[(.slice v6.base v6.len v6.cap),(.slice x7.base x7.len x7.cap)]) (.one (.at .sl)) (fun(x9:Sl) w10=>
 gener_Lost.j2 R k1 v1 x9 t25 t26 w10) w8) w)
def gener_Lost.b1(R:EPq)(k1:(Sl×Sl×Int×Int×Unit)→WPq)(v1:Sl)(v6:Sl)(t25:Int)(t26:Int)(w:World):Prop:=
 Cd (decide (t26<t25)) (Cd (decide (((v1.len:Nat):Int)>0)) (Pu Tryz.prog (Instr.indexAt 25 (.slice v1.base v1.len v1.cap) (.int .i64 0)) (.one (.at .addr)) (fun(x11:Addr) w12=>
 Rd Tryz.prog (Instr.loadAt 3 (.pointer (some x11))) (.one (.at (.int .i64))) (fun(x13:Int) w14=>
 gener_Lost.j3 R k1 v1 v6 t26 t25 t26 (x13==t26) w14) w12) w) (gener_Lost.j3 R k1 v1 v6 t26 t25 t26 false w)) (R (.returned (.tuple #[(.slice v6.base v6.len v6.cap),(.int .i64 0)])) w)
def gener_Lost.l1(R:EPq):(Sl×Sl×Int×Int×Unit)→World→Prop:=arZ (fun k1 s w=>gener_Lost.b1 R k1 s.1 s.2.1 s.2.2.1 s.2.2.2.1 w)
def gener_Lost.j1(R:EPq)(v0:Int)(v1:Sl)(t8:Bool)(w:World):Prop:=
 Cd t8 (R (.returned (.tuple #[(.slice none 0 0),(.int .i64 7)])) w) (Cl Tryz.prog 63 #[(.slice v1.base v1.len v1.cap),(.int .i64 v0)] (.one (.at .bool)) (fun(x1:Bool) w2=>
 Cd (!x1) (R (.returned (.tuple #[(.slice none 0 0),(.int .i64 110)])) w2) (Wr Tryz.prog (Instr.makeSlice 25 (.int .i64 0) (.int .i64 (IntKind.wrap .i64 (v0-((v1.len:Nat):Int))))) (.one (.at .sl)) (fun(x3:Sl) w4=>
 gener_Lost.l1 R (v1,x3,v0,0,()) w4) w2)) w)
def gener_Lost.M(R:EPq)(v0:Int)(v1:Sl)(w:World):Prop:=
 Cd (decide (v0<0)) (gener_Lost.j1 R v0 v1 true w) (gener_Lost.j1 R v0 v1 (decide (v0>65536)) w)
noncomputable def gener_Lost.ann(R:EPq):Ann:=
 .seq (.reg qN2) (.seq (.block (.join [(0,qcI),(1,qcS),(8,.at .bool)] (fun s w=>gener_Lost.j1 R s.1 s.2.1 s.2.2.1 w) (.reg (.op 0 .now (.op 1 .now (.op 2 .now (.split 2 (.skip 3 (.skip 4 (.op 5 .now (.op 6 .now (.done))))) (.op 3 .now (.op 4 .now (.op 5 .now (.op 6 .now (.done)))))))))) (.cond (.seq (.reg qN2) (.leaf)) (.seq (.reg (.op 0 .now (.op 1 .now (.op 2 (.cl (.one (.at .bool))) (.op 3 .now (.op 4 .now (.done))))))) (.cond (.seq (.reg qN2) (.leaf)) (.leaf)))))) (.seq (.reg (.op 0 .now (.op 1 .now (.op 2 .now (.op 3 .now (.op 4 (.wr (.one qcS)) (.op 5 .now (.done)))))))) (.seq (.seq (.reg qN2) (.block (.loop [(1,qcS),(6,qcS),(25,qcI),(26,qcI)] (fun k1 s w=>gener_Lost.b1 R k1 s.1 s.2.1 s.2.2.1 s.2.2.2.1 w) (fun k1=>.seq (.reg qN1) (.seq (.cond (.leaf) (.leaf)) (.join [(1,qcS),(6,qcS),(25,qcI),(26,qcI)] (fun s w=>gener_Lost.j2 R k1 s.1 s.2.1 s.2.2.1 s.2.2.2.1 w) (.block (.seq (.reg qN2) (.seq (.join [(1,qcS),(6,qcS),(7,qcI),(25,qcI),(26,qcI),(38,.at .bool)] (fun s w=>gener_Lost.j3 R k1 s.1 s.2.1 s.2.2.1 s.2.2.2.1 s.2.2.2.2.1 s.2.2.2.2.2.1 w) (.reg (.op 0 .now (.op 1 .now (.op 2 .now (.op 3 .now (.split 3 (.op 4 .now (.op 5 qpA (.op 6 (.rd (.one qcI)) (.op 7 .now (.op 8 .now (.op 9 .now (.done))))))) (.skip 4 (.skip 5 (.skip 6 (.skip 7 (.skip 8 (.op 9 .now (.done))))))))))))) (.cond (.seq (.reg (.op 0 .now (.op 1 (.pu (.one qcS)) (.op 2 .now (.done))))) (.leaf)) (.leaf))) (.reg (.op 0 .now (.op 1 .now (.op 2 (.wr (.one qcS)) (.op 3 (.wr (.one qcS)) (.op 4 .now (.done)))))))))) (.reg qN2))))))) (.seq (.reg qN3) (.leaf)))))
theorem gener_Lost.run(R:EPq)(v0:Int)(v1:Sl)(w:World)(h:gener_Lost.M R v0 v1 w):Calls Tryz.prog 41 #[(.int .i64 v0),(.slice v1.base v1.len v1.cap)] w R:=by
 refine aaZ aDZ Tryz.func41 (c:=gener_Lost.body) (by kernel_rfl) [.at .sl,.at (.int .i64)] (gener_Lost.ann R) 47 Tryz.ntmps41 [.tmp 4,.tmp 5] (by kernel_rfl) (Nat.le_of_ble_eq_true (by kernel_rfl)) ?_ ?_
 ·exact⟨tv,⟨⟨fun s w=>mq,tv,⟨⟨tv,tv⟩,⟨tv,⟨⟨tv,tv⟩,tv⟩⟩⟩⟩,⟨tv,⟨⟨tv,(fun k1=>⟨fun s w=>mq,⟨tv,⟨⟨tv,tv⟩,⟨fun s w=>mq,⟨tv,⟨⟨fun s w=>mq,tv,⟨⟨tv,tv⟩,tv⟩⟩,tv⟩⟩,tv⟩⟩⟩⟩)⟩,⟨tv,tv⟩⟩⟩⟩⟩
 ·exact Eq.mp (show gener_Lost.M R v0 v1 w=_ by kernel_rfl) h
noncomputable def gener_Decoder.body:Code:=(Tryz.f43.body).getD .skip
def gener_Decoder.j1(R:EPq)(v1:Int)(v3:Sl)(v4:Sl)(v12:Sl)(t28:Bool)(w:World):Prop:=
 Cd t28 (R (.returned (.tuple #[(.slice none 0 0),(.int .i64 110)])) w) (Cd (decide (((v3.len:Nat):Int)<v1)) (R (.returned (.tuple #[(.slice none 0 0),(.int .i64 9)])) w) (Cd (((v4.len:Nat):Int)==0) (R (.returned (.tuple #[(.slice none 0 0),(.int .i64 0)])) w) (Pu Tryz.prog (Instr.sliceAt 25 (.slice v3.base v3.len v3.cap) none (some (.int .i64 v1)) none) (.one (.at .sl)) (fun(x3:Sl) w4=>
 Cl Tryz.prog 68 #[(.slice v12.base v12.len v12.cap),(.slice x3.base x3.len x3.cap)] (.tup [.at .sl,.at (.int .i64)]) (fun x5 w6=>
 Cd (x5.2.1 !=0) (R (.returned (.tuple #[(.slice none 0 0),(.int .i64 x5.2.1)])) w6) (Cl Tryz.prog 69 #[(.slice x5.1.base x5.1.len x5.1.cap)] (.tup [.at .sl,.at (.int .i64)]) (fun x7 w8=>
 Cd (x7.2.1 !=0) (R (.returned (.tuple #[(.slice none 0 0),(.int .i64 x7.2.1)])) w8) (Cl Tryz.prog 68 #[(.slice v12.base v12.len v12.cap),(.slice v4.base v4.len v4.cap)] (.tup [.at .sl,.at (.int .i64)]) (fun x9 w10=>
 Cd (x9.2.1 !=0) (R (.returned (.tuple #[(.slice none 0 0),(.int .i64 x9.2.1)])) w10) (Cl Tryz.prog 70 #[(.slice x9.1.base x9.1.len x9.1.cap),(.slice x7.1.base x7.1.len x7.1.cap)] (.tup [.at .sl,.at (.int .i64)]) (fun x11 w12=>
 R (.returned (.tuple #[(.slice x11.1.base x11.1.len x11.1.cap),(.int .i64 x11.2.1)])) w12) w10)) w8)) w6)) w4) w)))
def gener_Decoder.M(R:EPq)(v0:Int)(v1:Int)(v2:Int)(v3:Sl)(v4:Sl)(w:World):Prop:=
 Cl Tryz.prog 67 #[(.int .i64 v0),(.int .i64 v1),(.int .i64 v2)] (.tup [.at .sl,.at (.int .i64)]) (fun x1 w2=>
 Cd (x1.2.1 !=0) (R (.returned (.tuple #[(.slice none 0 0),(.int .i64 x1.2.1)])) w2) (Cl Tryz.prog 63 #[(.slice v3.base v3.len v3.cap),(.int .i64 (IntKind.wrap .i64 (v1+v2)))] (.one (.at .bool)) (fun(x13:Bool) w14=>
 Cd (!x13) (gener_Decoder.j1 R v1 v3 v4 x1.1 true w14) (Cl Tryz.prog 63 #[(.slice v4.base v4.len v4.cap),(.int .i64 (IntKind.wrap .i64 (v1+v2)))] (.one (.at .bool)) (fun(x15:Bool) w16=>
 gener_Decoder.j1 R v1 v3 v4 x1.1 (!x15) w16) w14)) w2)) w
noncomputable def gener_Decoder.ann(R:EPq):Ann:=
 .seq (.reg qN2) (.seq (.reg (.op 0 .now (.op 1 .now (.op 2 .now (.op 3 (.cl (.tup [.at .sl,.at (.int .i64)])) (.op 4 .now (.op 5 .now (.op 6 .now (.op 7 .now (.op 8 .now (.done))))))))))) (.seq (.block (.seq (.reg qN3) (.cond (.seq (.reg qN3) (.leaf)) (.join [(1,qcI),(3,qcS),(4,qcS),(12,qcS),(28,.at .bool)] (fun s w=>gener_Decoder.j1 R s.1 s.2.1 s.2.2.1 s.2.2.2.1 s.2.2.2.2.1 w) (.reg (.op 0 .now (.op 1 .now (.op 2 .now (.op 3 .now (.op 4 (.cl (.one (.at .bool))) (.op 5 .now (.op 6 .now (.split 6 (.skip 7 (.skip 8 (.skip 9 (.skip 10 (.skip 11 (.skip 12 (.op 13 .now (.op 14 .now (.done))))))))) (.op 7 .now (.op 8 .now (.op 9 .now (.op 10 .now (.op 11 (.cl (.one (.at .bool))) (.op 12 .now (.op 13 .now (.op 14 .now (.done)))))))))))))))))) (.cond (.seq (.reg qN2) (.leaf)) (.seq (.reg qN5) (.cond (.seq (.reg qN2) (.leaf)) (.seq (.reg qN4) (.cond (.seq (.reg qN2) (.leaf)) (.leaf)))))))))) (.seq (.reg (.op 0 .now (.op 1 .now (.op 2 .now (.op 3 (.pu (.one qcS)) (.op 4 (.cl (.tup [.at .sl,.at (.int .i64)])) (.op 5 .now (.op 6 .now (.op 7 .now (.op 8 .now (.op 9 .now (.done)))))))))))) (.seq (.seq (.reg qN2) (.cond (.seq (.reg qN3) (.leaf)) (.leaf))) (.seq (.reg (.op 0 .now (.op 1 (.cl (.tup [.at .sl,.at (.int .i64)])) (.op 2 .now (.op 3 .now (.op 4 .now (.op 5 .now (.op 6 .now (.done))))))))) (.seq (.seq (.reg qN2) (.cond (.seq (.reg qN3) (.leaf)) (.leaf))) (.seq (.reg (.op 0 .now (.op 1 .now (.op 2 (.cl (.tup [.at .sl,.at (.int .i64)])) (.op 3 .now (.op 4 .now (.op 5 .now (.op 6 .now (.op 7 .now (.done)))))))))) (.seq (.seq (.reg qN2) (.cond (.seq (.reg qN3) (.leaf)) (.leaf))) (.seq (.reg (.op 0 .now (.op 1 .now (.op 2 (.cl (.tup [.at .sl,.at (.int .i64)])) (.op 3 .now (.op 4 .now (.op 5 .now (.op 6 .now (.done))))))))) (.leaf))))))))))
theorem gener_Decoder.run(R:EPq)(v0:Int)(v1:Int)(v2:Int)(v3:Sl)(v4:Sl)(w:World)(h:gener_Decoder.M R v0 v1 v2 v3 v4 w):Calls Tryz.prog 43 #[(.int .i64 v0),(.int .i64 v1),(.int .i64 v2),(.slice v3.base v3.len v3.cap),(.slice v4.base v4.len v4.cap)] w R:=by
 refine aaZ aDZ Tryz.func43 (c:=gener_Decoder.body) (by kernel_rfl) [.at .sl,.at (.int .i64)] (gener_Decoder.ann R) 85 Tryz.ntmps43 [.tmp 10,.tmp 11] (by kernel_rfl) (Nat.le_of_ble_eq_true (by kernel_rfl)) ?_ ?_
 ·exact⟨tv,⟨tv,⟨⟨tv,⟨⟨tv,tv⟩,⟨fun s w=>mq,tv,⟨⟨tv,tv⟩,⟨tv,⟨⟨tv,tv⟩,⟨tv,⟨⟨tv,tv⟩,tv⟩⟩⟩⟩⟩⟩⟩⟩,⟨tv,⟨⟨tv,⟨⟨tv,tv⟩,tv⟩⟩,⟨tv,⟨⟨tv,⟨⟨tv,tv⟩,tv⟩⟩,⟨tv,⟨⟨tv,⟨⟨tv,tv⟩,tv⟩⟩,⟨tv,tv⟩⟩⟩⟩⟩⟩⟩⟩⟩⟩
 ·exact Eq.mp (show gener_Decoder.M R v0 v1 v2 v3 v4 w=_ by kernel_rfl) h
noncomputable def gener_numbers.body:Code:=(Tryz.f63.body).getD .skip
def gener_numbers.j1(R:EPq)(k1:(Sl×Int×Sl×Int×Int×Unit)→WPq)(v0:Sl)(v1:Int)(t7:Sl)(t8:Int)(t9:Int)(t33:Bool)(w:World):Prop:=
 Cd t33 (R (.returned (.bool false)) w) (k1 (v0,v1,t7,t8,(IntKind.wrap .i64 (t9+1)),()) w)
def gener_numbers.b1(R:EPq)(k1:(Sl×Int×Sl×Int×Int×Unit)→WPq)(v0:Sl)(v1:Int)(t7:Sl)(t8:Int)(t9:Int)(w:World):Prop:=
 Cd (decide (t9<t8)) (Pu Tryz.prog (Instr.indexAt 25 (.slice t7.base t7.len t7.cap) (.int .i64 t9)) (.one (.at .addr)) (fun(x1:Addr) w2=>
 Rd Tryz.prog (Instr.loadAt 3 (.pointer (some x1))) (.one (.at (.int .i64))) (fun(x3:Int) w4=>
 Cd (decide (x3<0)) (gener_numbers.j1 R k1 v0 v1 t7 t8 t9 true w4) (Cd (decide (x3≥v1)) (gener_numbers.j1 R k1 v0 v1 t7 t8 t9 true w4) (Cd (decide (t9>0)) (Pu Tryz.prog (Instr.indexAt 25 (.slice v0.base v0.len v0.cap) (.int .i64 (IntKind.wrap .i64 (t9-1)))) (.one (.at .addr)) (fun(x5:Addr) w6=>
 Rd Tryz.prog (Instr.loadAt 3 (.pointer (some x5))) (.one (.at (.int .i64))) (fun(x7:Int) w8=>
 gener_numbers.j1 R k1 v0 v1 t7 t8 t9 (decide (x3≤x7)) w8) w6) w4) (gener_numbers.j1 R k1 v0 v1 t7 t8 t9 false w4)))) w2) w) (R (.returned (.bool true)) w)
def gener_numbers.l1(R:EPq):(Sl×Int×Sl×Int×Int×Unit)→World→Prop:=arZ (fun k1 s w=>gener_numbers.b1 R k1 s.1 s.2.1 s.2.2.1 s.2.2.2.1 s.2.2.2.2.1 w)
def gener_numbers.M(R:EPq)(v0:Sl)(v1:Int)(w:World):Prop:=
 gener_numbers.l1 R (v0,v1,v0,((v0.len:Nat):Int),0,()) w
noncomputable def gener_numbers.ann(R:EPq):Ann:=
 .seq (.reg qN1) (.seq (.seq (.reg qN3) (.block (.loop [(0,qcS),(1,qcI),(7,qcS),(8,qcI),(9,qcI)] (fun k1 s w=>gener_numbers.b1 R k1 s.1 s.2.1 s.2.2.1 s.2.2.2.1 s.2.2.2.2.1 w) (fun k1=>.seq (.reg qN1) (.seq (.cond (.leaf) (.leaf)) (.seq (.block (.seq (.reg (.op 0 .now (.op 1 qpA (.op 2 (.rd (.one qcI)) (.op 3 .now (.op 4 .now (.done))))))) (.join [(0,qcS),(1,qcI),(7,qcS),(8,qcI),(9,qcI),(33,.at .bool)] (fun s w=>gener_numbers.j1 R k1 s.1 s.2.1 s.2.2.1 s.2.2.2.1 s.2.2.2.2.1 s.2.2.2.2.2.1 w) (.reg (.op 0 .now (.op 1 .now (.op 2 .now (.split 2 (.skip 3 (.skip 4 (.skip 5 (.op 6 .now (.op 7 .now (.skip 8 (.skip 9 (.skip 10 (.skip 11 (.skip 12 (.skip 13 (.skip 14 (.skip 15 (.skip 16 (.skip 17 (.skip 18 (.op 19 .now (.done)))))))))))))))))) (.op 3 .now (.op 4 .now (.op 5 .now (.op 6 .now (.op 7 .now (.split 7 (.skip 8 (.skip 9 (.skip 10 (.skip 11 (.skip 12 (.skip 13 (.skip 14 (.skip 15 (.skip 16 (.skip 17 (.skip 18 (.op 19 .now (.done))))))))))))) (.op 8 .now (.op 9 .now (.op 10 .now (.split 10 (.op 11 .now (.op 12 .now (.op 13 .now (.op 14 .now (.op 15 qpA (.op 16 (.rd (.one qcI)) (.op 17 .now (.op 18 .now (.op 19 .now (.done)))))))))) (.skip 11 (.skip 12 (.skip 13 (.skip 14 (.skip 15 (.skip 16 (.skip 17 (.op 18 .now (.op 19 .now (.done))))))))))))))))))))))))) (.cond (.seq (.reg qN1) (.leaf)) (.leaf))))) (.reg qN2))))))) (.seq (.reg qN1) (.leaf)))
theorem gener_numbers.run(R:EPq)(v0:Sl)(v1:Int)(w:World)(h:gener_numbers.M R v0 v1 w):Calls Tryz.prog 63 #[(.slice v0.base v0.len v0.cap),(.int .i64 v1)] w R:=by
 refine aaZ aDZ Tryz.func63 (c:=gener_numbers.body) (by kernel_rfl) [.at .bool] (gener_numbers.ann R) 35 Tryz.ntmps63 [.tmp 4] (by kernel_rfl) (Nat.le_of_ble_eq_true (by kernel_rfl)) ?_ ?_
 ·exact⟨tv,⟨⟨tv,(fun k1=>⟨fun s w=>mq,⟨tv,⟨⟨tv,tv⟩,⟨⟨tv,⟨fun s w=>mq,tv,⟨⟨tv,tv⟩,tv⟩⟩⟩,tv⟩⟩⟩⟩)⟩,⟨tv,tv⟩⟩⟩
 ·exact Eq.mp (show gener_numbers.M R v0 v1 w=_ by kernel_rfl) h
noncomputable def gener_Generator.body:Code:=(Tryz.f67.body).getD .skip
def gener_Generator.M(R:EPq)(v0:Int)(v1:Int)(v2:Int)(w:World):Prop:=
 Cl Tryz.prog 52 #[(.int .i64 v0),(.int .i64 v1),(.int .i64 v2)] (.tup [.at .sl,.at (.int .i64)]) (fun x1 w2=>
 Cd (x1.2.1 !=0) (R (.returned (.tuple #[(.slice none 0 0),(.int .i64 x1.2.1)])) w2) (Cl Tryz.prog 89 #[(.int .i64 v1)] (.tup [.at .sl,.at (.int .i64)]) (fun x3 w4=>
 Cd (x3.2.1 !=0) (R (.returned (.tuple #[(.slice none 0 0),(.int .i64 x3.2.1)])) w4) (Wr Tryz.prog (Builtin.append_ #[30,30] 30 #[(.slice x3.1.base x3.1.len x3.1.cap),(.slice x1.1.base x1.1.len x1.1.cap)]) (.one (.at .sl)) (fun(x5:Sl) w6=>
 R (.returned (.tuple #[(.slice x5.base x5.len x5.cap),(.int .i64 0)])) w6) w4)) w2)) w
noncomputable def gener_Generator.ann(R:EPq):Ann:=
 .seq (.reg qN2) (.seq (.reg (.op 0 .now (.op 1 .now (.op 2 .now (.op 3 (.cl (.tup [.at .sl,.at (.int .i64)])) (.op 4 .now (.op 5 .now (.op 6 .now (.op 7 .now (.op 8 .now (.done))))))))))) (.seq (.seq (.reg qN2) (.cond (.seq (.reg qN3) (.leaf)) (.leaf))) (.seq (.reg (.op 0 .now (.op 1 (.cl (.tup [.at .sl,.at (.int .i64)])) (.op 2 .now (.op 3 .now (.op 4 .now (.op 5 .now (.op 6 .now (.done))))))))) (.seq (.seq (.reg qN2) (.cond (.seq (.reg qN3) (.leaf)) (.leaf))) (.seq (.reg (.op 0 .now (.op 1 .now (.op 2 (.wr (.one qcS)) (.op 3 .now (.op 4 .now (.done))))))) (.leaf))))))
theorem gener_Generator.run(R:EPq)(v0:Int)(v1:Int)(v2:Int)(w:World)(h:gener_Generator.M R v0 v1 v2 w):Calls Tryz.prog 67 #[(.int .i64 v0),(.int .i64 v1),(.int .i64 v2)] w R:=by
 refine aaZ aDZ Tryz.func67 (c:=gener_Generator.body) (by kernel_rfl) [.at .sl,.at (.int .i64)] (gener_Generator.ann R) 32 Tryz.ntmps67 [.tmp 6,.tmp 7] (by kernel_rfl) (Nat.le_of_ble_eq_true (by kernel_rfl)) ?_ ?_
 ·exact⟨tv,⟨tv,⟨⟨tv,⟨⟨tv,tv⟩,tv⟩⟩,⟨tv,⟨⟨tv,⟨⟨tv,tv⟩,tv⟩⟩,⟨tv,tv⟩⟩⟩⟩⟩⟩
 ·exact Eq.mp (show gener_Generator.M R v0 v1 v2 w=_ by kernel_rfl) h
noncomputable def shape_Whole.body:Code:=(Tryz.f55.body).getD .skip
def shape_Whole.M(R:EPq)(v0:Int)(v1:Int)(v2:Int)(v3:Sl)(w:World):Prop:=
 Cl Tryz.prog 58 #[(.int .i64 v0),(.int .i64 v1),(.int .i64 v2),(.slice v3.base v3.len v3.cap)] (.one (.at (.int .i64))) (fun(x1:Int) w2=>
 Cd (x1 !=0) (R (.returned (.tuple #[(.int .i64 0),(.int .i64 x1)])) w2) (Cl Tryz.prog 59 #[(.slice v3.base v3.len v3.cap)] (.tup [.at (.int .i64),.at .sl,.at .bool]) (fun x3 w4=>
 Cd (decide (((x3.2.1.len:Nat):Int)>0)) (R (.returned (.tuple #[(.int .i64 0),(.int .i64 161)])) w4) (Cd (!x3.2.2.1) (R (.returned (.tuple #[(.int .i64 0),(.int .i64 162)])) w4) (Cl Tryz.prog 60 #[(.int .i64 v0),(.int .i64 x3.1)] (.one (.at .bool)) (fun(x5:Bool) w6=>
 Cd x5 (R (.returned (.tuple #[(.int .i64 0),(.int .i64 8)])) w6) (R (.returned (.tuple #[(.int .i64 x3.1),(.int .i64 0)])) w6)) w4))) w2)) w
noncomputable def shape_Whole.ann(R:EPq):Ann:=
 .seq (.reg qN2) (.seq (.seq (.reg (.op 0 .now (.op 1 .now (.op 2 .now (.op 3 .now (.op 4 (.cl (.one qcI)) (.op 5 .now (.done)))))))) (.seq (.reg qN2) (.cond (.seq (.reg qN3) (.leaf)) (.leaf)))) (.seq (.reg (.op 0 .now (.op 1 (.cl (.tup [.at (.int .i64),.at .sl,.at .bool])) (.op 2 .now (.op 3 .now (.op 4 .now (.op 5 .now (.op 6 .now (.op 7 .now (.op 8 .now (.done))))))))))) (.seq (.block (.seq (.reg qN4) (.cond (.seq (.reg qN2) (.leaf)) (.seq (.reg qN3) (.cond (.seq (.reg qN2) (.leaf)) (.seq (.reg (.op 0 .now (.op 1 .now (.op 2 (.cl (.one (.at .bool))) (.op 3 .now (.done)))))) (.cond (.seq (.reg qN2) (.leaf)) (.leaf)))))))) (.seq (.reg qN3) (.leaf)))))
theorem shape_Whole.run(R:EPq)(v0:Int)(v1:Int)(v2:Int)(v3:Sl)(w:World)(h:shape_Whole.M R v0 v1 v2 v3 w):Calls Tryz.prog 55 #[(.int .i64 v0),(.int .i64 v1),(.int .i64 v2),(.slice v3.base v3.len v3.cap)] w R:=by
 refine aaZ aDZ Tryz.func55 (c:=shape_Whole.body) (by kernel_rfl) [.at (.int .i64),.at (.int .i64)] (shape_Whole.ann R) 40 Tryz.ntmps55 [.tmp 8,.tmp 9] (by kernel_rfl) (Nat.le_of_ble_eq_true (by kernel_rfl)) ?_ ?_
 ·exact⟨tv,⟨⟨tv,⟨tv,⟨⟨tv,tv⟩,tv⟩⟩⟩,⟨tv,⟨⟨tv,⟨⟨tv,tv⟩,⟨tv,⟨⟨tv,tv⟩,⟨tv,⟨⟨tv,tv⟩,tv⟩⟩⟩⟩⟩⟩,⟨tv,tv⟩⟩⟩⟩⟩
 ·exact Eq.mp (show shape_Whole.M R v0 v1 v2 v3 w=_ by kernel_rfl) h
noncomputable def shape_Fresh.body:Code:=(Tryz.f37.body).getD .skip
def shape_Fresh.j1(R:EPq)(k1:(Int×Int×Bool×Sl×Sl×Int×Int×Unit)→WPq)(v0:Int)(v14:Int)(v16:Bool)(v17:Sl)(t41:Sl)(t42:Int)(t43:Int)(w:World):Prop:=
 k1 (v0,v14,v16,v17,t41,t42,(IntKind.wrap .i64 (t43+1)),()) w
def shape_Fresh.b1(R:EPq)(k1:(Int×Int×Bool×Sl×Sl×Int×Int×Unit)→WPq)(v0:Int)(v14:Int)(v16:Bool)(v17:Sl)(t41:Sl)(t42:Int)(t43:Int)(w:World):Prop:=
 Cd (decide (t43<t42)) (Pu Tryz.prog (Instr.indexAt 30 (.slice t41.base t41.len t41.cap) (.int .i64 t43)) (.one (.at .addr)) (fun(x5:Addr) w6=>
 Rd Tryz.prog (Instr.loadAt 24 (.pointer (some x5))) (.one (.at .sl)) (fun(x7:Sl) w8=>
 Cd (decide (((x7.len:Nat):Int)>0)) (Wr Tryz.prog (Instr.buildSlice 25 1 #[(0,(.int .i64 t43))]) (.one (.at .sl)) (fun(x9:Sl) w10=>
 Wr Tryz.prog (Builtin.append_ #[25,25] 25 #[(.slice v17.base v17.len v17.cap),(.slice x9.base x9.len x9.cap)]) (.one (.at .sl)) (fun(x11:Sl) w12=>
 Cd v16 (shape_Fresh.j1 R k1 v0 v14 (((x7.len:Nat):Int)==v14) x11 t41 t42 t43 w12) (shape_Fresh.j1 R k1 v0 v14 false x11 t41 t42 t43 w12)) w10) w8) (shape_Fresh.j1 R k1 v0 v14 v16 v17 t41 t42 t43 w8)) w6) w) (Cd (!v16) (R (.returned (.tuple #[(.int .i64 0),(.slice none 0 0),(.int .i64 162)])) w) (Cl Tryz.prog 60 #[(.int .i64 v0),(.int .i64 v14)] (.one (.at .bool)) (fun(x13:Bool) w14=>
 Cd x13 (R (.returned (.tuple #[(.int .i64 0),(.slice none 0 0),(.int .i64 8)])) w14) (R (.returned (.tuple #[(.int .i64 v14),(.slice v17.base v17.len v17.cap),(.int .i64 0)])) w14)) w))
def shape_Fresh.l1(R:EPq):(Int×Int×Bool×Sl×Sl×Int×Int×Unit)→World→Prop:=arZ (fun k1 s w=>shape_Fresh.b1 R k1 s.1 s.2.1 s.2.2.1 s.2.2.2.1 s.2.2.2.2.1 s.2.2.2.2.2.1 s.2.2.2.2.2.2.1 w)
def shape_Fresh.M(R:EPq)(v0:Int)(v1:Int)(v2:Int)(v3:Sl)(v4:Sl)(w:World):Prop:=
 Cl Tryz.prog 58 #[(.int .i64 v0),(.int .i64 v1),(.int .i64 v2),(.slice v3.base v3.len v3.cap)] (.one (.at (.int .i64))) (fun(x1:Int) w2=>
 Cd (x1 !=0) (R (.returned (.tuple #[(.int .i64 0),(.slice none 0 0),(.int .i64 x1)])) w2) (Cd (((v4.len:Nat):Int) !=v1) (R (.returned (.tuple #[(.int .i64 0),(.slice none 0 0),(.int .i64 160)])) w2) (Cl Tryz.prog 59 #[(.slice v3.base v3.len v3.cap)] (.tup [.at (.int .i64),.at .sl,.at .bool]) (fun x3 w4=>
 Cd (decide (((x3.2.1.len:Nat):Int)>0)) (R (.returned (.tuple #[(.int .i64 0),(.slice none 0 0),(.int .i64 161)])) w4) (shape_Fresh.l1 R (v0,x3.1,x3.2.2.1,⟨none,0,0⟩,v4,((v4.len:Nat):Int),0,()) w4)) w2))) w
noncomputable def shape_Fresh.ann(R:EPq):Ann:=
 .seq (.reg qN3) (.seq (.seq (.reg (.op 0 .now (.op 1 .now (.op 2 .now (.op 3 .now (.op 4 (.cl (.one qcI)) (.op 5 .now (.done)))))))) (.seq (.reg qN2) (.cond (.seq (.reg qN4) (.leaf)) (.leaf)))) (.seq (.seq (.reg qN4) (.cond (.seq (.reg qN3) (.leaf)) (.leaf))) (.seq (.reg (.op 0 .now (.op 1 (.cl (.tup [.at (.int .i64),.at .sl,.at .bool])) (.op 2 .now (.op 3 .now (.op 4 .now (.op 5 .now (.op 6 .now (.op 7 .now (.op 8 .now (.done))))))))))) (.seq (.seq (.reg qN3) (.cond (.seq (.reg qN3) (.leaf)) (.leaf))) (.seq (.reg qN1) (.seq (.seq (.reg qN3) (.block (.loop [(0,qcI),(14,qcI),(16,.at .bool),(17,qcS),(41,qcS),(42,qcI),(43,qcI)] (fun k1 s w=>shape_Fresh.b1 R k1 s.1 s.2.1 s.2.2.1 s.2.2.2.1 s.2.2.2.2.1 s.2.2.2.2.2.1 s.2.2.2.2.2.2.1 w) (fun k1=>.seq (.reg qN1) (.seq (.cond (.leaf) (.leaf)) (.join [(0,qcI),(14,qcI),(16,.at .bool),(17,qcS),(41,qcS),(42,qcI),(43,qcI)] (fun s w=>shape_Fresh.j1 R k1 s.1 s.2.1 s.2.2.1 s.2.2.2.1 s.2.2.2.2.1 s.2.2.2.2.2.1 s.2.2.2.2.2.2.1 w) (.block (.seq (.reg (.op 0 .now (.op 1 qpA (.op 2 qrS (.op 3 .now (.op 4 .now (.done))))))) (.seq (.reg qN3) (.cond (.seq (.reg (.op 0 .now (.op 1 .now (.op 2 (.wr (.one qcS)) (.op 3 (.wr (.one qcS)) (.op 4 .now (.done))))))) (.reg (.op 0 .now (.op 1 .now (.split 1 (.op 2 .now (.op 3 .now (.op 4 .now (.op 5 .now (.op 6 .now (.op 7 .now (.done))))))) (.skip 2 (.skip 3 (.skip 4 (.skip 5 (.op 6 .now (.op 7 .now (.done)))))))))))) (.leaf))))) (.reg qN2))))))) (.seq (.block (.seq (.reg qN3) (.cond (.seq (.reg qN3) (.leaf)) (.seq (.reg (.op 0 .now (.op 1 .now (.op 2 (.cl (.one (.at .bool))) (.op 3 .now (.done)))))) (.cond (.seq (.reg qN3) (.leaf)) (.leaf)))))) (.seq (.reg qN5) (.leaf)))))))))
theorem shape_Fresh.run(R:EPq)(v0:Int)(v1:Int)(v2:Int)(v3:Sl)(v4:Sl)(w:World)(h:shape_Fresh.M R v0 v1 v2 v3 v4 w):Calls Tryz.prog 37 #[(.int .i64 v0),(.int .i64 v1),(.int .i64 v2),(.slice v3.base v3.len v3.cap),(.slice v4.base v4.len v4.cap)] w R:=by
 refine aaZ aDZ Tryz.func37 (c:=shape_Fresh.body) (by kernel_rfl) [.at (.int .i64),.at .sl,.at (.int .i64)] (shape_Fresh.ann R) 72 Tryz.ntmps37 [.tmp 10,.tmp 11,.tmp 12] (by kernel_rfl) (Nat.le_of_ble_eq_true (by kernel_rfl)) ?_ ?_
 ·exact⟨tv,⟨⟨tv,⟨tv,⟨⟨tv,tv⟩,tv⟩⟩⟩,⟨⟨tv,⟨⟨tv,tv⟩,tv⟩⟩,⟨tv,⟨⟨tv,⟨⟨tv,tv⟩,tv⟩⟩,⟨tv,⟨⟨tv,(fun k1=>⟨fun s w=>mq,⟨tv,⟨⟨tv,tv⟩,⟨fun s w=>mq,⟨tv,⟨tv,⟨⟨tv,tv⟩,tv⟩⟩⟩,tv⟩⟩⟩⟩)⟩,⟨⟨tv,⟨⟨tv,tv⟩,⟨tv,⟨⟨tv,tv⟩,tv⟩⟩⟩⟩,⟨tv,tv⟩⟩⟩⟩⟩⟩⟩⟩⟩
 ·exact Eq.mp (show shape_Fresh.M R v0 v1 v2 v3 v4 w=_ by kernel_rfl) h
noncomputable def shape_Partial.body:Code:=(Tryz.f61.body).getD .skip
def shape_Partial.M(R:EPq)(v0:Int)(v1:Int)(v2:Int)(v3:Sl)(w:World):Prop:=
 Cl Tryz.prog 58 #[(.int .i64 v0),(.int .i64 v1),(.int .i64 v2),(.slice v3.base v3.len v3.cap)] (.one (.at (.int .i64))) (fun(x1:Int) w2=>
 Cd (x1 !=0) (R (.returned (.tuple #[(.int .i64 0),(.slice none 0 0),(.int .i64 x1)])) w2) (Cl Tryz.prog 59 #[(.slice v3.base v3.len v3.cap)] (.tup [.at (.int .i64),.at .sl,.at .bool]) (fun x3 w4=>
 Cd (x3.1==0) (R (.returned (.tuple #[(.int .i64 0),(.slice none 0 0),(.int .i64 161)])) w4) (Cd (!x3.2.2.1) (R (.returned (.tuple #[(.int .i64 0),(.slice none 0 0),(.int .i64 162)])) w4) (Cl Tryz.prog 60 #[(.int .i64 v0),(.int .i64 x3.1)] (.one (.at .bool)) (fun(x5:Bool) w6=>
 Cd x5 (R (.returned (.tuple #[(.int .i64 0),(.slice none 0 0),(.int .i64 8)])) w6) (Cd (decide (((x3.2.1.len:Nat):Int)>v2)) (R (.returned (.tuple #[(.int .i64 0),(.slice none 0 0),(.int .i64 9)])) w6) (R (.returned (.tuple #[(.int .i64 x3.1),(.slice x3.2.1.base x3.2.1.len x3.2.1.cap),(.int .i64 0)])) w6))) w4))) w2)) w
noncomputable def shape_Partial.ann(R:EPq):Ann:=
 .seq (.reg qN3) (.seq (.seq (.reg (.op 0 .now (.op 1 .now (.op 2 .now (.op 3 .now (.op 4 (.cl (.one qcI)) (.op 5 .now (.done)))))))) (.seq (.reg qN2) (.cond (.seq (.reg qN4) (.leaf)) (.leaf)))) (.seq (.reg (.op 0 .now (.op 1 (.cl (.tup [.at (.int .i64),.at .sl,.at .bool])) (.op 2 .now (.op 3 .now (.op 4 .now (.op 5 .now (.op 6 .now (.op 7 .now (.op 8 .now (.done))))))))))) (.seq (.block (.seq (.reg qN3) (.cond (.seq (.reg qN3) (.leaf)) (.seq (.reg qN3) (.cond (.seq (.reg qN3) (.leaf)) (.seq (.reg (.op 0 .now (.op 1 .now (.op 2 (.cl (.one (.at .bool))) (.op 3 .now (.done)))))) (.cond (.seq (.reg qN3) (.leaf)) (.seq (.reg qN5) (.cond (.seq (.reg qN3) (.leaf)) (.leaf)))))))))) (.seq (.reg qN5) (.leaf)))))
theorem shape_Partial.run(R:EPq)(v0:Int)(v1:Int)(v2:Int)(v3:Sl)(w:World)(h:shape_Partial.M R v0 v1 v2 v3 w):Calls Tryz.prog 61 #[(.int .i64 v0),(.int .i64 v1),(.int .i64 v2),(.slice v3.base v3.len v3.cap)] w R:=by
 refine aaZ aDZ Tryz.func61 (c:=shape_Partial.body) (by kernel_rfl) [.at (.int .i64),.at .sl,.at (.int .i64)] (shape_Partial.ann R) 46 Tryz.ntmps61 [.tmp 8,.tmp 9,.tmp 10] (by kernel_rfl) (Nat.le_of_ble_eq_true (by kernel_rfl)) ?_ ?_
 ·exact⟨tv,⟨⟨tv,⟨tv,⟨⟨tv,tv⟩,tv⟩⟩⟩,⟨tv,⟨⟨tv,⟨⟨tv,tv⟩,⟨tv,⟨⟨tv,tv⟩,⟨tv,⟨⟨tv,tv⟩,⟨tv,⟨⟨tv,tv⟩,tv⟩⟩⟩⟩⟩⟩⟩⟩,⟨tv,tv⟩⟩⟩⟩⟩
 ·exact Eq.mp (show shape_Partial.M R v0 v1 v2 v3 w=_ by kernel_rfl) h
noncomputable def shape_counted.body:Code:=(Tryz.f58.body).getD .skip
def shape_counted.M(R:EPq)(v0:Int)(v1:Int)(v2:Int)(v3:Sl)(w:World):Prop:=
 Cl Tryz.prog 87 #[(.int .i64 v0),(.int .i64 v1),(.int .i64 v2)] (.one (.at (.int .i64))) (fun(x1:Int) w2=>
 Cd (x1 !=0) (R (.returned (.int .i64 x1)) w2) (Cd (((v3.len:Nat):Int) !=(IntKind.wrap .i64 (v1+v2))) (R (.returned (.int .i64 160)) w2) (R (.returned (.int .i64 0)) w2))) w
noncomputable def shape_counted.ann(R:EPq):Ann:=
 .seq (.reg qN1) (.seq (.seq (.reg (.op 0 .now (.op 1 .now (.op 2 .now (.op 3 (.cl (.one qcI)) (.op 4 .now (.done))))))) (.seq (.reg qN2) (.cond (.seq (.reg qN2) (.leaf)) (.leaf)))) (.seq (.seq (.reg qN6) (.cond (.seq (.reg qN1) (.leaf)) (.leaf))) (.seq (.reg qN1) (.leaf))))
theorem shape_counted.run(R:EPq)(v0:Int)(v1:Int)(v2:Int)(v3:Sl)(w:World)(h:shape_counted.M R v0 v1 v2 v3 w):Calls Tryz.prog 58 #[(.int .i64 v0),(.int .i64 v1),(.int .i64 v2),(.slice v3.base v3.len v3.cap)] w R:=by
 refine aaZ aDZ Tryz.func58 (c:=shape_counted.body) (by kernel_rfl) [.at (.int .i64)] (shape_counted.ann R) 23 Tryz.ntmps58 [.tmp 8] (by kernel_rfl) (Nat.le_of_ble_eq_true (by kernel_rfl)) ?_ ?_
 ·exact⟨tv,⟨⟨tv,⟨tv,⟨⟨tv,tv⟩,tv⟩⟩⟩,⟨⟨tv,⟨⟨tv,tv⟩,tv⟩⟩,⟨tv,tv⟩⟩⟩⟩
 ·exact Eq.mp (show shape_counted.M R v0 v1 v2 v3 w=_ by kernel_rfl) h
noncomputable def shape_lengths.body:Code:=(Tryz.f59.body).getD .skip
def shape_lengths.j1(R:EPq)(k1:(Int×Sl×Bool×Sl×Int×Int×Unit)→WPq)(v2:Int)(v3:Sl)(v4:Bool)(t7:Sl)(t8:Int)(t9:Int)(w:World):Prop:=
 k1 (v2,v3,v4,t7,t8,(IntKind.wrap .i64 (t9+1)),()) w
def shape_lengths.b1(R:EPq)(k1:(Int×Sl×Bool×Sl×Int×Int×Unit)→WPq)(v2:Int)(v3:Sl)(v4:Bool)(t7:Sl)(t8:Int)(t9:Int)(w:World):Prop:=
 Cd (decide (t9<t8)) (Pu Tryz.prog (Instr.indexAt 30 (.slice t7.base t7.len t7.cap) (.int .i64 t9)) (.one (.at .addr)) (fun(x1:Addr) w2=>
 Rd Tryz.prog (Instr.loadAt 24 (.pointer (some x1))) (.one (.at .sl)) (fun(x3:Sl) w4=>
 Cd (((x3.len:Nat):Int)==0) (Wr Tryz.prog (Instr.buildSlice 25 1 #[(0,(.int .i64 t9))]) (.one (.at .sl)) (fun(x5:Sl) w6=>
 Wr Tryz.prog (Builtin.append_ #[25,25] 25 #[(.slice v3.base v3.len v3.cap),(.slice x5.base x5.len x5.cap)]) (.one (.at .sl)) (fun(x7:Sl) w8=>
 shape_lengths.j1 R k1 v2 x7 v4 t7 t8 t9 w8) w6) w4) (Cd (v2==0) (shape_lengths.j1 R k1 ((x3.len:Nat):Int) v3 v4 t7 t8 t9 w4) (Cd (v2 !=((x3.len:Nat):Int)) (shape_lengths.j1 R k1 v2 v3 false t7 t8 t9 w4) (shape_lengths.j1 R k1 v2 v3 v4 t7 t8 t9 w4)))) w2) w) (R (.returned (.tuple #[(.int .i64 v2),(.slice v3.base v3.len v3.cap),(.bool v4)])) w)
def shape_lengths.l1(R:EPq):(Int×Sl×Bool×Sl×Int×Int×Unit)→World→Prop:=arZ (fun k1 s w=>shape_lengths.b1 R k1 s.1 s.2.1 s.2.2.1 s.2.2.2.1 s.2.2.2.2.1 s.2.2.2.2.2.1 w)
def shape_lengths.M(R:EPq)(v0:Sl)(w:World):Prop:=
 shape_lengths.l1 R (0,⟨none,0,0⟩,true,v0,((v0.len:Nat):Int),0,()) w
noncomputable def shape_lengths.ann(R:EPq):Ann:=
 .seq (.reg qN3) (.seq (.reg qN1) (.seq (.seq (.reg qN3) (.block (.loop [(2,qcI),(3,qcS),(4,.at .bool),(7,qcS),(8,qcI),(9,qcI)] (fun k1 s w=>shape_lengths.b1 R k1 s.1 s.2.1 s.2.2.1 s.2.2.2.1 s.2.2.2.2.1 s.2.2.2.2.2.1 w) (fun k1=>.seq (.reg qN1) (.seq (.cond (.leaf) (.leaf)) (.join [(2,qcI),(3,qcS),(4,.at .bool),(7,qcS),(8,qcI),(9,qcI)] (fun s w=>shape_lengths.j1 R k1 s.1 s.2.1 s.2.2.1 s.2.2.2.1 s.2.2.2.2.1 s.2.2.2.2.2.1 w) (.block (.seq (.reg (.op 0 .now (.op 1 qpA (.op 2 qrS (.op 3 .now (.op 4 .now (.done))))))) (.block (.seq (.reg qN4) (.cond (.reg (.op 0 .now (.op 1 .now (.op 2 (.wr (.one qcS)) (.op 3 (.wr (.one qcS)) (.op 4 .now (.done))))))) (.seq (.reg qN3) (.cond (.reg qN3) (.seq (.reg qN5) (.cond (.reg qN1) (.leaf)))))))))) (.reg qN2))))))) (.seq (.reg qN6) (.leaf))))
theorem shape_lengths.run(R:EPq)(v0:Sl)(w:World)(h:shape_lengths.M R v0 w):Calls Tryz.prog 59 #[(.slice v0.base v0.len v0.cap)] w R:=by
 refine aaZ aDZ Tryz.func59 (c:=shape_lengths.body) (by kernel_rfl) [.at (.int .i64),.at .sl,.at .bool] (shape_lengths.ann R) 36 Tryz.ntmps59 [.tmp 2,.tmp 3,.tmp 4] (by kernel_rfl) (Nat.le_of_ble_eq_true (by kernel_rfl)) ?_ ?_
 ·exact⟨tv,⟨tv,⟨⟨tv,(fun k1=>⟨fun s w=>mq,⟨tv,⟨⟨tv,tv⟩,⟨fun s w=>mq,⟨tv,⟨tv,⟨tv,⟨tv,⟨tv,⟨tv,⟨tv,tv⟩⟩⟩⟩⟩⟩⟩,tv⟩⟩⟩⟩)⟩,⟨tv,tv⟩⟩⟩⟩
 ·exact Eq.mp (show shape_lengths.M R v0 w=_ by kernel_rfl) h
noncomputable def shape_odd.body:Code:=(Tryz.f60.body).getD .skip
def shape_odd.M(R:EPq)(v0:Int)(v1:Int)(w:World):Prop:=
 Cd (v0==2) (R (.returned (.bool ((Int.tmod v1 2)==1))) w) (R (.returned (.bool false)) w)
noncomputable def shape_odd.ann(R:EPq):Ann:=
 .seq (.reg qN1) (.seq (.reg (.op 0 .now (.op 1 .now (.op 2 .now (.split 2 (.op 3 .now (.op 4 .now (.op 5 .now (.op 6 .now (.op 7 .now (.done)))))) (.skip 3 (.skip 4 (.skip 5 (.op 6 .now (.op 7 .now (.done))))))))))) (.leaf))
theorem shape_odd.run(R:EPq)(v0:Int)(v1:Int)(w:World)(h:shape_odd.M R v0 v1 w):Calls Tryz.prog 60 #[(.int .i64 v0),(.int .i64 v1)] w R:=by
 refine aaZ aDZ Tryz.func60 (c:=shape_odd.body) (by kernel_rfl) [.at .bool] (shape_odd.ann R) 12 Tryz.ntmps60 [.tmp 4] (by kernel_rfl) (Nat.le_of_ble_eq_true (by kernel_rfl)) ?_ ?_
 ·exact⟨tv,⟨tv,tv⟩⟩
 ·exact Eq.mp (show shape_odd.M R v0 v1 w=_ by kernel_rfl) h
noncomputable def shape_family.body:Code:=(Tryz.f114.body).getD .skip
def shape_family.M(R:EPq)(v0:Int)(w:World):Prop:=
 Cd (decide (v0≥0)) (R (.returned (.bool (decide (v0≤2)))) w) (R (.returned (.bool false)) w)
noncomputable def shape_family.ann(R:EPq):Ann:=
 .seq (.reg qN1) (.seq (.reg (.op 0 .now (.op 1 .now (.op 2 .now (.split 2 (.op 3 .now (.op 4 .now (.op 5 .now (.op 6 .now (.done))))) (.skip 3 (.skip 4 (.op 5 .now (.op 6 .now (.done)))))))))) (.leaf))
theorem shape_family.run(R:EPq)(v0:Int)(w:World)(h:shape_family.M R v0 w):Calls Tryz.prog 114 #[(.int .i64 v0)] w R:=by
 refine aaZ aDZ Tryz.func114 (c:=shape_family.body) (by kernel_rfl) [.at .bool] (shape_family.ann R) 9 Tryz.ntmps114 [.tmp 2] (by kernel_rfl) (Nat.le_of_ble_eq_true (by kernel_rfl)) ?_ ?_
 ·exact⟨tv,⟨tv,tv⟩⟩
 ·exact Eq.mp (show shape_family.M R v0 w=_ by kernel_rfl) h
end Go.Proofs.YtbiilejgfihohaaGreat
namespace Go.Cu
open Go Go.RowKit
structure Mo(X:Nat→Prop)(w w':World):Prop where
 os:w'.os=w.os
 tape:w'.tape=w.tape
 output:w'.output=w.output
 size:w.heap.size≤w'.heap.size
 keep:∀b,b<w.heap.size→¬X b→w'.heap[b]? =w.heap[b]?
abbrev Nob:Nat→Prop:=fun _=>False
abbrev Ex(w w':World):Prop:=Mo Nob w w'
theorem Mo.refl(X:Nat→Prop)(w:World):Mo X w w:=⟨rfl,rfl,rfl,Nat.le_refl _,fun _ _ _=>rfl⟩
theorem Ex.refl(w:World):Ex w w:=Mo.refl _ w
theorem Mo.trans{X Y Z:Nat→Prop}{a b c:World}(h:Mo X a b)(k:Mo Y b c)(h1:∀i,X i→Z i)(h2:∀i,i<a.heap.size→Y i→Z i):Mo Z a c:=
 ⟨k.os.trans h.os,k.tape.trans h.tape,k.output.trans h.output,Nat.le_trans h.size k.size,fun b hb hz=>
  (k.keep b (Nat.lt_of_lt_of_le hb h.size) (fun hy=>hz (h2 b hb hy))).trans (h.keep b hb (fun hx=>hz (h1 b hx)))⟩
theorem Ex.trans{a b c:World}(h:Ex a b)(k:Ex b c):Ex a c:=Mo.trans h k (fun _=>id) (fun _ _=>id)
theorem Mo.ex{X:Nat→Prop}{a b c:World}(h:Mo X a b)(k:Ex b c):Mo X a c:=Mo.trans h k (fun _=>id) (fun _ _=>False.elim)
theorem Ex.mo{X:Nat→Prop}{a b c:World}(h:Ex a b)(k:Mo X b c):Mo X a c:=Mo.trans h k (fun _=>False.elim) (fun _ _=>id)
theorem Mo.weak{X Y:Nat→Prop}{a b:World}(h:Mo X a b)(hx:∀i,i<a.heap.size→X i→Y i):Mo Y a b:=
 ⟨h.os,h.tape,h.output,h.size,fun b hb hy=>h.keep b hb (fun x=>hy (hx b hb x))⟩
theorem Mo.new{X:Nat→Prop}{a b:World}(h:Mo X a b)(hx:∀i,X i→a.heap.size≤i):Ex a b:=
 h.weak fun i hi x=>absurd (hx i x) (by omega)
theorem Ex.into{X:Nat→Prop}{a b c:World}(h:Ex a b)(k:Mo X b c)(hx:∀i,X i→a.heap.size≤i):Ex a c:=
 Mo.trans h k (fun _=>id) (fun i hi hy=>absurd (hx i hy) (by omega))
theorem Ex.drew(w:World):Ex w w.drew:=⟨rfl,rfl,rfl,Nat.le_refl _,fun _ _ _=>rfl⟩
theorem Ex.alloc(w:World)(o:Obj):Ex w (w.alloc o):=⟨rfl,rfl,rfl,by simp,fun b hb _=>Below.heap_alloc w o b hb⟩
theorem Ex.below{a b:World}(h:Ex a b):Below a.heap.size a b:=⟨h.os,h.tape,h.output,h.size,fun i hi=>h.keep i hi id⟩
theorem Mo.cell{X:Nat→Prop}{w w':World}(h:Mo X w w'){a:Addr}{v:Value}(hc:w.cell? a=some v)(hx:¬X a.block):w'.cell? a=some v:=by
 rw[World.cell?_of_block (h.keep a.block (World.block_lt_of_cell? w a hc) hx)];exact hc
def Has(w:World)(B:Nat)(cs:List Value)(t:TypeId):Prop:=w.heap[B]? =some (.cells cs.toArray t (0,0))
theorem Has.lt{w:World}{B:Nat}{cs:List Value}{t:TypeId}(h:Has w B cs t):B<w.heap.size:=by
 rcases Nat.lt_or_ge B w.heap.size with h' | h'
 ·exact h'
 ·unfold Has at h;rw[Array.getElem?_eq_none h']at h;cases h
theorem Has.mo{X:Nat→Prop}{w w':World}{B:Nat}{cs:List Value}{t:TypeId}(h:Has w B cs t)(k:Mo X w w')(hx:¬X B):Has w' B cs t:=
 (k.keep B h.lt hx).trans h
theorem Has.ex{w w':World}{B:Nat}{cs:List Value}{t:TypeId}(h:Has w B cs t)(k:Ex w w'):Has w' B cs t:=h.mo k id
theorem Has.alloc(w:World)(cs:Array Value)(t:TypeId):Has (w.alloc (.cells cs t)) w.heap.size cs.toList t:=by
 unfold Has;show(w.heap.push _)[_]? =_;simp
theorem Has.cell{w:World}{B:Nat}{cs:List Value}{t:TypeId}(h:Has w B cs t)(i:Nat):w.cell? ⟨B,i,none⟩=cs[i]? :=by
 unfold Has at h;simp[World.cell?,h]
theorem Mo.setRow(w:World)(g:Nat)(cs:Array Value):Mo (fun b=>b=g) w (w.setRow g cs):=
 ⟨rfl,rfl,rfl,by simp,fun b _ hb=>setRow_other w g b cs hb⟩
def isOne(P:Program)(t:TypeId):Bool:=match P.underlying t with
 | some (.struct _) | some (.array _ _) | none=>false
 | some _=>true
def isAggN(P:Program)(t:TypeId)(n:Nat):Bool:=match P.underlying t with
 | some (.struct _) | some (.array _ _)=>match P.info? t with
  | some i=>Nat.beq i.size n
  | none=>false
 | _=>false
def aWZ(P:Program)(t:TypeId)(n:Nat):Bool:=match P.info? t with
 | some i=>Nat.beq i.size n
 | none=>false
section
variable {P:Program}
theorem run_isAgg_one{t:TypeId}(h:isOne P t=true)(w:World):(isAgg t).run P w=.ok false w:=by
 unfold isOne at h
 cases hu:P.underlying t with
 | none=>rw[hu]at h;cases h
 | some d=>rw[hu]at h;unfold isAgg;rw[run_bind,run_underlying hu];cases d <;> first | rfl | cases h
theorem run_isAgg_agg{t:TypeId}{n:Nat}(h:isAggN P t n=true)(w:World):(isAgg t).run P w=.ok true w∧(sizeOf t).run P w=.ok n w:=by
 unfold isAggN at h
 cases hu:P.underlying t with
 | none=>rw[hu]at h;cases h
 | some d=>
  rw[hu]at h
  have h1:(isAgg t).run P w=.ok true w:=by unfold isAgg;rw[run_bind,run_underlying hu];cases d <;> first | rfl | cases h
  refine⟨h1,?_⟩
  cases hi:P.info? t with
  | none=>rw[hi]at h;cases d <;> cases h
  | some i=>
   rw[hi]at h
   have:i.size=n:=by cases d <;> first | exact Nat.eq_of_beq_eq_true h | cases h
   simp[sizeOf,typeInfo,hi,this]
theorem run_sizeOf{t:TypeId}{n:Nat}(h:aWZ P t n=true)(w:World):(sizeOf t).run P w=.ok n w:=by
 unfold aWZ at h
 cases hi:P.info? t with
 | none=>rw[hi]at h;cases h
 | some i=>rw[hi]at h;have:=Nat.eq_of_beq_eq_true h;simp[sizeOf,typeInfo,hi,this]
theorem run_load_one{t:TypeId}{a:Addr}{v:Value}{w:World}(h:isOne P t=true)(hc:w.cell? a=some v):(Instr.loadAt t (.pointer (some a))).run P w=.ok v w:=by
 have e:Instr.loadAt t (.pointer (some a))=loadVar t a:=rfl
 rw[e]
 unfold loadVar
 rw[run_bind,run_isAgg_one h]
 simp only[Bool.false_eq_true,if_false]
 show Sem.run P (Sem.load .plain a .pure) w=_
 simp only[Sem.run,hc]
theorem bfZ{t:TypeId}{a:Addr}{cs:List Value}{w:World}(h:isAggN P t cs.length=true)(hc:∀j v,cs[j]? =some v→w.cell? (a.add j)=some v):
  (Instr.loadAt t (.pointer (some a))).run P w=.ok (.agg cs.toArray) w:=by
 have e:Instr.loadAt t (.pointer (some a))=loadVar t a:=rfl
 rw[e]
 unfold loadVar
 rw[run_bind,(run_isAgg_agg h w).1]
 simp only[if_true]
 rw[run_bind,(run_isAgg_agg h w).2]
 simp only
 rw[run_bind,run_loadCells_list w a cs hc]
 rfl
theorem bwZ{t:TypeId}{a:Addr}{c:At}{x:c.T}{k:c.T→World→Prop}{w:World}(h:isOne P t=true)(hc:w.cell? a=some (c.enc x))(hk:k x w):
  Rd P (Instr.loadAt t (.pointer (some a))) (.one (.at c)) k w:=⟨x,run_load_one h hc,hk⟩
theorem RdS_one{S:World→Prop}{t:TypeId}{a:Addr}{c:At}{x:c.T}{k:c.T→World→Prop}{w:World}(h:isOne P t=true)(hc:∀w',S w'→w'.cell? a=some (c.enc x))(hk:k x w):
  RdS P S (Instr.loadAt t (.pointer (some a))) (.one (.at c)) k w:=⟨x,fun w' hS=>run_load_one h (hc w' hS),hk⟩
theorem ajZ{t:TypeId}{B i:Nat}{cs:List Value}{e:TypeId}{c:At}{x:c.T}{k:c.T→World→Prop}{w:World}(hB:Has w B cs e)(h:isOne P t=true)(hi:cs[i]? =some (c.enc x))(hk:k x w):
  Rd P (Instr.loadAt t (.pointer (some ⟨B,i,none⟩))) (.one (.at c)) k w:=bwZ h ((hB.cell i).trans hi) hk
theorem akZ{S:World→Prop}{t:TypeId}{B i:Nat}{cs:List Value}{e:TypeId}{c:At}{x:c.T}{k:c.T→World→Prop}{w:World}(hB:∀w',S w'→Has w' B cs e)(h:isOne P t=true)(hi:cs[i]? =some (c.enc x))(hk:k x w):
  RdS P S (Instr.loadAt t (.pointer (some ⟨B,i,none⟩))) (.one (.at c)) k w:=RdS_one h (fun w' hS=>((hB w' hS).cell i).trans hi) hk
theorem has_part{w:World}{B i:Nat}{cs:List Value}{e:TypeId}{l:List At}{x:Ats l}(hB:Has w B cs e)(hx:(cs.drop i).take (afZ l x).length=afZ l x):
  ∀j v,(afZ l x)[j]? =some v→w.cell? ((⟨B,i,none⟩:Addr).add j)=some v:=by
 intro j v hj
 have e:((⟨B,i,none⟩:Addr).add j)=⟨B,i+j,none⟩:=by
  unfold Addr.add;split
  ·rename_i h;subst h;rfl
  ·rfl
 rw[e,hB.cell]
 rw[←hx]at hj
 rw[List.getElem?_take]at hj
 split at hj
 ·rwa [List.getElem?_drop]at hj
 ·cases hj
theorem bxZ{t:TypeId}{B i:Nat}{cs:List Value}{e:TypeId}{l:List At}{x:Ats l}{k:Ats l→World→Prop}{w:World}(hB:Has w B cs e)(h:isAggN P t (afZ l x).length=true)
  (hx:(cs.drop i).take (afZ l x).length=afZ l x) (hk:k x w):Rd P (Instr.loadAt t (.pointer (some ⟨B,i,none⟩))) (.one (.agg l)) k w:=
 ⟨x,bfZ h (has_part hB hx),hk⟩
theorem RdS_hasN{S:World→Prop}{t:TypeId}{B i:Nat}{cs:List Value}{e:TypeId}{l:List At}{x:Ats l}{k:Ats l→World→Prop}{w:World}(hB:∀w',S w'→Has w' B cs e)(h:isAggN P t (afZ l x).length=true)
  (hx:(cs.drop i).take (afZ l x).length=afZ l x) (hk:k x w):RdS P S (Instr.loadAt t (.pointer (some ⟨B,i,none⟩))) (.one (.agg l)) k w:=
 ⟨x,fun w' hS=>bfZ h (has_part (hB w' hS) hx),hk⟩
theorem boZ{s:Sem Value}{d:Sh}{k:d.T→World→Prop}{w:World}(h:Rd P s d k w):RdS P (Same w) s d k w:=by
 obtain⟨x,hx,hk⟩:=h
 exact⟨x,fun w' hw=>(by cases hw;exact hx),hk⟩
theorem bcZ{t:TypeId}{v:Value}{k:Addr→World→Prop}{w:World}(hk:∀w',Has w' w.heap.size v.cells.toList t→Ex w w'→k ⟨w.heap.size,0,none⟩ w'):
  Wr P (Instr.box t v) (.one (.at .addr)) k w:=
 ⟨_,_,rfl,hk (w.alloc (.cells v.cells t)) (Has.alloc w v.cells t) (Ex.alloc w _)⟩
theorem Wr_alloc{t:TypeId}{z:Value}{k:Addr→World→Prop}{w:World}(hz:(P.info? t).bind (·.zero)=some z)(hk:∀w',Has w' w.heap.size z.cells.toList t→Ex w w'→k ⟨w.heap.size,0,none⟩ w'):
  Wr P (Instr.alloc t true (.tuple #[])) (.one (.at .addr)) k w:=by
 refine⟨_,w.alloc (.cells z.cells t),?_,hk _ (Has.alloc w z.cells t) (Ex.alloc w _)⟩
 cases hi:P.info? t with
 | none=>rw[hi]at hz;cases hz
 | some i=>
  rw[hi]at hz
  have hz:i.zero=some z:=hz
  simp[Instr.alloc,zeroValue,typeInfo,hi,hz,newVar,newRow,newObj,Cx.enc,At.enc,Sh.enc,Sem.run,Result.andThen]
theorem run_store_has{t:TypeId}{B i:Nat}{cs:List Value}{e:TypeId}{v:Value}{w:World}(hB:Has w B cs e)(hs:aWZ P t v.cells.size=true)(h1:∀u∈v.cells.toList,u.oneCell'=true)(hi:i+v.cells.size≤cs.length):
  (Instr.storeAt t (.pointer (some ⟨B,i,none⟩)) v).run P w=.ok () (w.setRow B (cs.take i++v.cells.toList++cs.drop (i+v.cells.size)).toArray):=by
 have e1:Instr.storeAt t (.pointer (some ⟨B,i,none⟩)) v=storeVar t ⟨B,i,none⟩ v:=rfl
 rw[e1]
 unfold storeVar
 rw[run_bind,run_sizeOf hs]
 simp only[ne_eq,not_true_eq_false,if_false]
 have:=run_storeCells_at P B i e v.cells.toList 0 cs.toArray w hB (by simpa using hi) h1
 simpa using this
theorem awZ{t:TypeId}{B i:Nat}{cs:List Value}{e:TypeId}{v:Value}{k:World→Prop}{w:World}(hB:Has w B cs e)(hs:aWZ P t v.cells.size=true)(h1:∀u∈v.cells.toList,u.oneCell'=true)(hi:i+v.cells.size≤cs.length)
  (hk:∀w',Has w' B (cs.take i++v.cells.toList++cs.drop (i+v.cells.size)) e→Mo (fun b=>b=B) w w'→k w'):Wu P (Instr.storeAt t (.pointer (some ⟨B,i,none⟩)) v) k w:=
 ⟨_,run_store_has hB hs h1 hi,hk _ (setRow_heap w B _ _ e _ hB) (Mo.setRow w B _)⟩
theorem Cl_of{f:FuncId}{args:Array Value}{d:Sh}{k:d.T→World→Prop}{w:World}{R:Ending→World→Prop}(h:Calls P f args w R)(hk:∀e w',R e w'→∃x,e=.returned (d.enc x)∧k x w'):Cl P f args d k w:=
 Calls.mono h hk
theorem Cd_of{c:Bool}{A B:Prop}(h1:c=true→A)(h2:c=false→B):Cd c A B:=⟨h1,h2⟩
theorem abZ{p:Prop}[Decidable p]{A B:Prop}(h1:p→A)(h2:¬p→B):Cd (decide p) A B:=⟨fun h=>h1 (of_decide_eq_true h),fun h=>h2 (of_decide_eq_false h)⟩
theorem aJZ{x y:Int}{A B:Prop}(h1:x=y→A)(h2:x≠y→B):Cd (x==y) A B:=⟨fun h=>h1 (by simpa using h),fun h=>h2 (by simpa using h)⟩
theorem aEZ{x y:Int}{A B:Prop}(h1:x≠y→A)(h2:x=y→B):Cd (x !=y) A B:=⟨fun h=>h1 (by simpa using h),fun h=>h2 (by simpa using h)⟩
theorem beq_t{x y:Int}(h:(x==y)=true):x=y:=by simpa using h
theorem Cd_not{c:Bool}{A B:Prop}(h1:c=false→A)(h2:c=true→B):Cd (!c) A B:=⟨fun h=>h1 (by simpa using h),fun h=>h2 (by simpa using h)⟩
theorem Cd_t{A B:Prop}(h:A):Cd true A B:=⟨fun _=>h,fun h=>(by cases h)⟩
theorem aAZ{A B:Prop}(h:B):Cd false A B:=⟨fun h=>(by cases h),fun _=>h⟩
theorem asZ{w:World}{f:(World→Prop)→Prop}(S:World→Prop)(h:S w)(hf:f S):Held w f:=⟨S,h,hf⟩
theorem Held_ex{w:World}{f:(World→Prop)→Prop}(hf:f (Ex w)):Held w f:=⟨Ex w,Ex.refl w,hf⟩
def Rds{α:Type}(f:α→Value)(w:World)(s:Sl)(l:List α):Prop:=
 s.len=l.length∧s.len≤s.cap∧∀i x,l[i]? =some x→∃a,s.base=some a∧w.cell? (a.add i)=some (f x)
theorem Addr.add_block(a:Addr)(n:Nat):(a.add n).block=a.block:=by unfold Addr.add;split <;> rfl
theorem Rds.mo{α:Type}{f:α→Value}{X:Nat→Prop}{w w':World}{s:Sl}{l:List α}(h:Rds f w s l)(k:Mo X w w')(hx:∀a,s.base=some a→¬X a.block):Rds f w' s l:=
 ⟨h.1,h.2.1,fun i x hi=>by
  obtain⟨a,ha,hc⟩:=h.2.2 i x hi
  exact⟨a,ha,k.cell hc (by rw[Addr.add_block];exact hx a ha)⟩⟩
theorem Rds.ex{α:Type}{f:α→Value}{w w':World}{s:Sl}{l:List α}(h:Rds f w s l)(k:Ex w w'):Rds f w' s l:=h.mo k (fun _ _=>id)
theorem Rds.nil{α:Type}(f:α→Value)(w:World):Rds f w ⟨none,0,0⟩ []:=⟨rfl,Nat.le_refl _,fun i x h=>by simp at h⟩
theorem bBZ{t e:TypeId}{s:Sl}{ik:IntKind}{i:Int}{n:Nat}{a:Addr}{w:World}(ht:P.underlying t=some (.slice e))(hs:aWZ P e n=true)(ha:s.base=some a)(h0:0≤i)(h1:i<s.len):
  (Instr.indexAt t (.slice s.base s.len s.cap) (.int ik i)).run P w=.ok (.pointer (some (a.add (i.toNat*n)))) w:=by
 have hsz:=run_sizeOf hs
 simp[Instr.indexAt,asIntOf,run_underlying ht,ha,h0,h1,hsz]
theorem Pu_idx{α:Type}{f:α→Value}{t e:TypeId}{s:Sl}{l:List α}{ik:IntKind}{i:Int}{k:Addr→World→Prop}{w:World}(hr:Rds f w s l)(ht:P.underlying t=some (.slice e))(hs:aWZ P e 1=true)
  (h0:0≤i) (h1:i<l.length) (hk:∀a x,l[i.toNat]? =some x→w.cell? a=some (f x)→s.base.map (·.block)=some a.block→k a w):
  Pu P (Instr.indexAt t (.slice s.base s.len s.cap) (.int ik i)) (.one (.at .addr)) k w:=by
 have hlt:i.toNat<l.length:=by omega
 obtain⟨a,ha,hc⟩:=hr.2.2 i.toNat _ (List.getElem?_eq_getElem hlt)
 refine⟨a.add i.toNat,fun w'=>?_,hk _ _ (List.getElem?_eq_getElem hlt) hc (by rw[ha];simp[Addr.add_block])⟩
 have:=bBZ (P:=P) (ik:=ik) (w:=w') ht hs ha h0 (by rw[hr.1];exact h1)
 rw[Nat.mul_one]at this
 exact this
theorem run_sliceAt{t e:TypeId}{s:Sl}{lo hi:Option Value}{l h n:Nat}{w:World}(ht:P.underlying t=some (.slice e))(hs:aWZ P e n=true)
  (hlo:(lo=none∧l=0)∨∃k,lo=some (.int k l)) (hhi:(hi=none∧h=s.len)∨∃k,hi=some (.int k h)) (h1:l≤h) (h2:h≤s.cap):
  (Instr.sliceAt t (.slice s.base s.len s.cap) lo hi none).run P w=.ok (.slice (if s.cap=l then s.base else s.base.map (·.add (l*n))) (h-l) (s.cap-l)) w:=by
 have hsz:=run_sizeOf hs
 rcases hlo with ⟨rfl,rfl⟩ | ⟨k1,rfl⟩ <;> rcases hhi with ⟨rfl,rfl⟩ | ⟨k2,rfl⟩ <;>
  simp[Instr.sliceAt,Instr.slice,Instr.sliceBounds,Instr.sliceBound,run_underlying ht,asIntOf,hsz,h1,h2] <;> omega
theorem Rds.slice{α:Type}{f:α→Value}{w:World}{s:Sl}{l:List α}(hr:Rds f w s l){lo hi:Nat}(h1:lo≤hi)(h2:hi≤l.length):
  Rds f w ⟨if s.cap=lo then s.base else s.base.map (·.add lo),hi-lo,s.cap-lo⟩ ((l.take hi).drop lo):=by
 have hc:=hr.2.1
 have hl:=hr.1
 refine⟨by simp;omega,by simp only;omega,fun i x hi'=>?_⟩
 rw[List.getElem?_drop,List.getElem?_take]at hi'
 split at hi'
 ·rename_i hlt
  obtain⟨a,ha,hcell⟩:=hr.2.2 _ _ hi'
  simp only
  rw[if_neg (by omega),ha]
  exact⟨_,rfl,by rw[Addr.add_add];exact hcell⟩
 ·cases hi'
theorem Pu_slice{α:Type}{f:α→Value}{t e:TypeId}{s:Sl}{l:List α}{lo hi:Option Value}(a b:Nat){k:Sl→World→Prop}{w:World}(hr:Rds f w s l)(ht:P.underlying t=some (.slice e))(hs:aWZ P e 1=true)
  (hlo:(lo=none∧a=0)∨∃k,lo=some (.int k a)) (hhi:(hi=none∧b=l.length)∨∃k,hi=some (.int k b)) (h1:a≤b) (h2:b≤l.length)
  (hk:∀s',(∀w',Rds f w' s l→Rds f w' s' ((l.take b).drop a))→s'.len=b-a→s'.cap=s.cap-a→(∀x,s'.base=some x→∃y,s.base=some y∧x.block=y.block)→k s' w):
  Pu P (Instr.sliceAt t (.slice s.base s.len s.cap) lo hi none) (.one (.at .sl)) k w:=by
 have hc:=hr.2.1
 have hl:=hr.1
 refine⟨⟨if s.cap=a then s.base else s.base.map (·.add a),b-a,s.cap-a⟩,fun w'=>?_,hk _ (fun w' h=>h.slice h1 h2) rfl rfl ?_⟩
 ·have:=run_sliceAt (P:=P) (s:=s) (w:=w') (l:=a) (h:=b) ht hs hlo (by rw[hl];exact hhi) h1 (by omega)
  rw[Nat.mul_one]at this
  exact this
 ·intro x hx
  simp only at hx
  split at hx
  ·exact⟨x,hx,rfl⟩
  ·cases hb:s.base with
   | none=>rw[hb]at hx;cases hx
   | some y=>rw[hb]at hx;cases hx;exact⟨y,rfl,Addr.add_block y a⟩
def Own{α:Type}(f:α→Value)(e:TypeId)(base:Nat)(w:World)(s:Sl)(l:List α):Prop:=
 s.len=l.length∧w.ownsRow base e 1 (.slice s.base s.len s.cap) s.len (l.map f)
def SlIn(s:Sl)(b:Nat):Prop:=∃a,s.base=some a∧a.block=b
theorem Own.nil{α:Type}(f:α→Value)(e:TypeId)(base:Nat)(w:World):Own f e base w ⟨none,0,0⟩ []:=⟨rfl,World.ownsRow_nil w base e 1⟩
theorem Own.base{α:Type}{f:α→Value}{e:TypeId}{base:Nat}{w:World}{s:Sl}{l:List α}(h:Own f e base w s l):∀b,SlIn s b→base≤b∧b<w.heap.size:=by
 intro b ⟨a,ha,hb⟩
 exact h.2.lt b (by simp[Value.ownBlock,ha,hb])
theorem Own.rds{α:Type}{f:α→Value}{e:TypeId}{base:Nat}{w:World}{s:Sl}{l:List α}(h:Own f e base w s l):Rds f w s l:=by
 obtain⟨h1,h2⟩:=h
 obtain⟨sb,sl,sc⟩:=s
 simp only at h1 h2
 refine⟨h1,?_,fun i x hi=>?_⟩
 ·rcases h2.2 with ⟨e,_⟩ | ⟨g,cap,cur,e,_,_,hc,_⟩
  ·cases e;exact Nat.le_refl _
  ·cases e;exact hc
 ·have hx:(l.map f)[i]? =some (f x):=by simp[hi]
  rcases h2.2 with ⟨e,e'⟩ | ⟨g,cap,cur,e,r⟩
  ·cases e
   have:l=[]:=List.eq_nil_of_length_eq_zero (by omega)
   subst this;simp at hi
  ·cases e
   exact⟨_,rfl,h2.cells (g:=g) rfl i _ hx⟩
theorem Own.mo{α:Type}{f:α→Value}{e:TypeId}{base:Nat}{X:Nat→Prop}{w w':World}{s:Sl}{l:List α}(h:Own f e base w s l)(k:Mo X w w')(hx:∀b,SlIn s b→¬X b):Own f e base w' s l:=by
 refine⟨h.1,h.2.1,?_⟩
 rcases h.2.2 with h2 | ⟨g,cap,cur,e1,hb,hg,r⟩
 ·exact .inl h2
 ·refine .inr ⟨g,cap,cur,e1,hb,?_,r⟩
  have hlt:g<w.heap.size:=by
   rcases Nat.lt_or_ge g w.heap.size with h' | h'
   ·exact h'
   ·rw[Array.getElem?_eq_none h']at hg;cases hg
  rw[k.keep g hlt (hx g ⟨⟨g,0,none⟩,by injection e1,rfl⟩)]
  exact hg
theorem Own.ex{α:Type}{f:α→Value}{e:TypeId}{base:Nat}{w w':World}{s:Sl}{l:List α}(h:Own f e base w s l)(k:Ex w w'):Own f e base w' s l:=h.mo k (fun _ _=>id)
theorem Own.weak{α:Type}{f:α→Value}{e:TypeId}{base base':Nat}{w:World}{s:Sl}{l:List α}(h:Own f e base w s l)(hb:base'≤base):Own f e base' w s l:=by
 refine⟨h.1,h.2.1,?_⟩
 rcases h.2.2 with h2 | ⟨g,cap,cur,e1,hb',r⟩
 ·exact .inl h2
 ·exact .inr ⟨g,cap,cur,e1,Nat.le_trans hb hb',r⟩
theorem ownsRow_grown{w:World}{base n cap:Nat}{e:TypeId}{xs:List Value}{rest:Array Value}(hb:base≤w.heap.size)(hn:xs.length=n)(hc:n≤cap)(hm:cap≤maxLen)(hr:rest.size=cap-n):
  (w.alloc (.cells (xs.toArray++rest) e)).ownsRow base e 1 (.slice (some ⟨w.heap.size,0,none⟩) n cap) n xs:=by
 refine⟨by rw[Nat.mul_one];exact hn,.inr ⟨w.heap.size,cap,_,rfl,hb,heap_alloc_new w _,hc,hm,?_,?_⟩⟩
 ·simp[hn,hr];omega
 ·rw[Nat.mul_one,←hn];simp
theorem aGZ{α:Type}{f:α→Value}{t ty e:TypeId}{base:Nat}{s x:Sl}{l m:List α}{z:Value}{bytes:Nat}{k:Sl→World→Prop}{w:World}
  (ht:P.underlying t=some (.slice e)) (hi:(P.info? e).map (fun i=>(i.zero,i.size,i.bytes))=some (some z,1,bytes)) (hz:z.cells.size=1)
  (hown:Own f e base w s l) (hr:Rds f w x m) (h1:∀y,(f y).oneCell'=true) (h63:l.length+m.length≤140737488355328) (hbytes:(l.length+m.length)*bytes≤140737488355328) (hbase:base≤w.heap.size)
  (hk:∀s' w',Own f e base w' s' (l++m)→Mo (SlIn s) w w'→(∀b,SlIn s' b→SlIn s b∨w.heap.size≤b)→k s' w'):
  Wr P (Builtin.append_ #[t,t] ty #[.slice s.base s.len s.cap,.slice x.base x.len x.cap]) (.one (.at .sl)) k w:=by
 obtain⟨i,hi0,hz0,hs0,hb0⟩:=info_parts hi
 subst hb0
 have hml:maxLen=9223372036854775807:=rfl
 obtain⟨sb,sl,sc⟩:=s
 obtain⟨xb,xl,xc⟩:=x
 have hsl:sl=l.length:=hown.1
 have hxl:xl=m.length:=hr.1
 have hcap:sl≤sc:=hown.rds.2.1
 subst hsl hxl
 have hnews:∀a,xb=some a→∀j u,(m.map f)[j]? =some u→w.cell? (a.add j)=some u:=by
  intro a ha j u hj
  simp only[List.getElem?_map]at hj
  cases hmj:m[j]? with
  | none=>rw[hmj]at hj;cases hj
  | some y=>
   rw[hmj]at hj;cases hj
   obtain⟨a',ha',hc⟩:=hr.2.2 j y hmj
   simp only[ha]at ha';cases ha';exact hc
 have hu1:∀u∈m.map f,u.oneCell'=true:=fun u hu=>by obtain⟨y,_,rfl⟩:=List.mem_map.1 hu;exact h1 y
 have hnone:xb=none→m=[]:=fun hx=>by
  cases m with
  | nil=>rfl
  | cons y r=>obtain⟨a,ha,_⟩:=hr.2.2 0 y rfl;simp only[hx]at ha;cases ha
 have same:m=[]→(Builtin.append_ #[t,t] ty #[.slice sb l.length sc,.slice xb m.length xc]).run P w=.ok (.slice sb l.length sc) w:=by
  intro hm;subst hm
  have hl0:∀a:Addr,(loadCells a 0).run P w=.ok #[] w:=fun a=>by simpa using run_loadCells_list (P:=P) w a [] (by simp)
  cases sb <;> cases xb <;> simp[Builtin.append_,run_underlying ht,sizeOf,typeInfo,hi0,hs0,Builtin.lenOf,Builtin.firstCells,hcap,storeCells,hl0]
 by_cases hm:m=[]
 ·subst hm
  exact⟨⟨sb,l.length,sc⟩,w,same rfl,hk _ _ (by simpa using hown) (Mo.refl _ _) (fun b hb=>.inl hb)⟩
 ·obtain⟨a,rfl⟩:∃a,xb=some a:=by
   cases xb with
   | none=>exact absurd (hnone rfl) hm
   | some a=>exact⟨a,rfl⟩
  have hmpos:0<m.length:=List.length_pos_iff.2 hm
  have hge:∀old,l.length+m.length≤grownCap w (l.length+m.length) old e:=fun old=>grownCap_ge w _ old e
  have hle:∀old,grownCap w (l.length+m.length) old e≤maxLen:=fun old=>grownCap_le_maxLen w _ old e (by rw[hml];omega)
  have fin:∀old,(Builtin.append_ #[t,t] ty #[.slice sb l.length sc,.slice (some a) m.length xc]).run P w=.ok (.slice (some ⟨w.heap.size,0,none⟩) (l.length+m.length) (grownCap w (l.length+m.length) old e))
    (w.drew.alloc (.cells ((l.map f).toArray++(m.map f).toArray++Builtin.zeroCells z.cells (grownCap w (l.length+m.length) old e-(l.length+m.length))) e))→
    Wr P (Builtin.append_ #[t,t] ty #[.slice sb l.length sc,.slice (some a) m.length xc]) (.one (.at .sl)) k w:=by
   intro old hrun
   refine⟨⟨some ⟨w.heap.size,0,none⟩,_,_⟩,_,hrun,hk _ _ ⟨by simp,?_⟩ ?_ (fun b hb=>.inr ?_)⟩
   ·have hxs:(l.map f).toArray++(m.map f).toArray=((l++m).map f).toArray:=by simp
    rw[hxs]
    exact ownsRow_grown (w:=w.drew) hbase (by simp) (hge old) (hle old) ((size_zeroCells _ _).trans (by rw[hz];exact Nat.mul_one _))
   ·exact((Ex.drew w).trans (Ex.alloc w.drew _)).weak (fun _ _ h=>h.elim)
   ·obtain⟨a',ha',hb'⟩:=hb
    cases ha';exact Nat.le_of_eq hb'
  rcases hown.2.2 with ⟨e1,e2⟩ | ⟨g,cap,cur,e1,hbg,hg,hnc,hcm,hcs,htake⟩
  ·have hl:l=[]:=List.eq_nil_of_length_eq_zero e2
   subst hl
   cases e1
   refine fin 0 ?_
   have:=run_append_nil (P:=P) w t ty e i z ht hi0 hz0 a m.length xc (m.map f) (by simp[hs0]) (hnews a rfl) hmpos (by simp at h63;omega) (by simp at hbytes;omega)
   simpa using this
  ·cases e1
   by_cases hroom:l.length+m.length≤sc
   ·have hfit:l.length*i.size+(m.map f).length≤cur.size:=by rw[hs0,hcs,Nat.mul_one,Nat.mul_one,List.length_map];exact hroom
    have hrun:=run_append_room (P:=P) w t ty e i ht hi0 g l.length sc cur hg a m.length xc (m.map f) (by simp[hs0]) (hnews a rfl) hu1 hroom hfit
    refine⟨⟨some ⟨g,0,none⟩,_,sc⟩,_,hrun,hk _ _ ⟨by simp,by simp,.inr ⟨g,sc,_,rfl,hbg,setRow_heap w g cur _ e _ hg,hroom,hcm,?_,?_⟩⟩ ?_ (fun b hb=>.inl hb)⟩
    ·simp only[hs0,Nat.mul_one,List.size_toArray,List.length_append,List.length_take,List.length_drop,Array.length_toList,List.length_map]at hcs ⊢
     omega
    ·simp only[hs0,Nat.mul_one]at htake ⊢
     rw[htake]
     simp only[List.map_append,List.append_assoc]
     rw[show l.length+m.length=(List.map f l++List.map f m).length by simp,←List.append_assoc]
     exact List.take_left
    ·exact(Mo.setRow w g _).weak (fun b _ hb=>⟨_,rfl,hb.symm⟩)
   ·refine fin sc ?_
    have holds:∀j u,(l.map f)[j]? =some u→w.cell? ((⟨g,0,none⟩:Addr).add j)=some u:=hown.2.cells (g:=g) rfl
    exact run_append_grow (P:=P) w t ty e i z ht hi0 hz0 ⟨g,0,none⟩ l.length sc (l.map f) (by simp[hs0]) holds a m.length xc (m.map f) (by simp[hs0]) (hnews a rfl) (by omega) (by omega) (growslice_fits (by omega) hbytes)
end
end Go.Cu
