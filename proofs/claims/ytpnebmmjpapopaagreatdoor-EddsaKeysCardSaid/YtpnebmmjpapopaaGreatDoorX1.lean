/-
  Part of the proof of a statement: the means.
-/
import Derived.Calls
import Derived.Laws.BytesArg
import Derived.RowKit3
import Derived.Laws.Cells
import Derived.Laws.Alloc2
import Derived.Laws.Externs
import Derived.ChangeKeysEq
import Derived.Laws.StructEq
import Derived.Laws.IdiomStrings
set_option linter.unusedSectionVars false
set_option linter.unusedVariables false
set_option linter.unusedSimpArgs false
set_option linter.deprecated false
section
namespace Go.Sx
abbrev pN:Nat:=726838724295606890549323807888004534353641360687318060281490199180612328166730772686396383698676545930088884461843637361053498018365439
abbrev Fp:=Fin pN
instance:NeZero pN:=⟨by decide⟩
def dF:Fp :=-39081
structure AP where
 x:Fp
 y:Fp
def AP.on (P:AP):Prop:=P.x*P.x+P.y*P.y=1+dF*P.x*P.x*P.y*P.y
def fI (n:Int):Fp:=Fin.ofNat pN (n % pN).toNat
def valB (b:Int):List Int->Int
 | []=>0
 | x :: l=>x+b*valB b l
def okFe (x:Fp) (xs:List Int):Prop:=xs.length=8/\(∀ a ∈ xs,0<=a/\a<72057594037928192)/\fI (valB 72057594037927936 xs)=x
def okRe (x:Fp) (xs:List Int):Prop:=xs.length=16/\(∀ a ∈ xs,0<=a/\a<268435456)/\valB 268435456 xs=x.val
def okSc (k:Nat) (xs:List Int):Prop:=xs.length=7/\(∀ a ∈ xs,0<=a/\a<18446744073709551616)/\valB 18446744073709551616 xs=k/\k<181709681073901722637330951972001133588410340171829515070372549795146003961539585716195755291692375963310293709091662304773755859649779
def okWd (n:Nat) (xs:List Int):Prop :=∃ h l,xs=[h,l]/\0<=h/\0<=l/\l<18446744073709551616/\(n:Int)=h*18446744073709551616+l/\n<340282366920938463463374607431768211456
def okPt (ok:Fp->List Int->Prop) (P:AP) (xs:List Int):Prop :=
 P.on /\ ∃ X Y Z a b c,xs=a++(b++c)/\ok X a/\ok Y b/\ok Z c/\Z ≠ 0/\X=P.x*Z/\Y=P.y*Z
inductive Pay where
 | fe (x:Fp)
 | re (x:Fp)
 | wd (n:Nat)
 | sc (k:Nat)
 | pt (P:AP)
 | rp (P:AP)
def Pay.k:Pay->IntKind
 | .re _ =>.i64
 | .rp _ =>.i64
 | _ =>.u64
def Pay.n:Pay->Nat
 | .fe _=>8
 | .re _=>16
 | .wd _=>2
 | .sc _=>7
 | .pt _=>24
 | .rp _=>48
def Pay.ok:Pay->List Int->Prop
 | .fe x,xs=>okFe x xs
 | .re x,xs=>okRe x xs
 | .wd n,xs=>okWd n xs
 | .sc k,xs=>okSc k xs
 | .pt P,xs=>okPt okFe P xs
 | .rp P,xs=>okPt okRe P xs
theorem Pay.len {p:Pay} {xs:List Int} (h:p.ok xs):xs.length=p.n:=by
 cases p with
 | fe x=>exact h.1
 | re x=>exact h.1
 | wd n=>obtain⟨a,b,rfl,_⟩:=h;rfl
 | sc k=>exact h.1
 | pt P=>obtain⟨_,X,Y,Z,a,b,c,rfl,h1,h2,h3,_⟩:=h;simp[h1.1,h2.1,h3.1,Pay.n]
 | rp P=>obtain⟨_,X,Y,Z,a,b,c,rfl,h1,h2,h3,_⟩:=h;simp[h1.1,h2.1,h3.1,Pay.n]
inductive PayL where
 | fe (xs:List Fp)
 | pt (Ps:List AP)
def PayL.es:PayL->Nat
 | .fe _=>8
 | .pt _=>24
def PayL.len:PayL->Nat
 | .fe xs=>xs.length
 | .pt Ps=>Ps.length
def PayL.get:PayL->Nat->Pay
 | .fe xs,i =>.fe (xs.getD i 0)
 | .pt Ps,i =>.pt (Ps.getD i ⟨0,1⟩)
def PayL.ok (q:PayL) (ys:List Int):Prop:=ys.length=q.len*q.es /\ ∀ i,i<q.len->(q.get i).ok ((ys.drop (i*q.es)).take q.es)
theorem PayL.get_k (q:PayL) (i:Nat):(q.get i).k = .u64:=by cases q<;>rfl
theorem PayL.es_pos (q:PayL):0<q.es:=by cases q<;>exact Nat.succ_pos _
theorem Pay.pos (p:Pay):0<p.n:=by cases p<;>exact Nat.succ_pos _
theorem qgV {b:Int} (hb:0<b) : ∀ {xs ys:List Int},xs.length=ys.length->(∀ a ∈ xs,0<=a/\a<b)->(∀ a ∈ ys,0<=a/\a<b)->valB b xs=valB b ys->xs=ys
 | [],[],_,_,_,_=>rfl
 | [],_ :: _,h,_,_,_=>by simp at h
 | _ :: _,[],h,_,_,_=>by simp at h
 | x :: xs,y :: ys,h,hx,hy,he=>by
   have h1:=hx x (List.mem_cons_self ..)
   have h2:=hy y (List.mem_cons_self ..)
   simp only[valB]at he
   have e1:(x+b*valB b xs) % b=x:=by rw[Int.add_mul_emod_self_left];exact Int.emod_eq_of_lt h1.1 h1.2
   have e2:(y+b*valB b ys) % b=y:=by rw[Int.add_mul_emod_self_left];exact Int.emod_eq_of_lt h2.1 h2.2
   have e:x=y:=by rw[<- e1,he,e2]
   subst e
   have e3:valB b xs=valB b ys:=Int.eq_of_mul_eq_mul_left (by omega) (Int.add_left_cancel he)
   rw[qgV hb (by simpa using h) (fun a ha=>hx a (List.mem_cons_of_mem _ ha)) (fun a ha=>hy a (List.mem_cons_of_mem _ ha)) e3]
instance (x:Fp) (xs:List Int):Decidable (okRe x xs):=by unfold okRe;infer_instance
def reEq (x:Fp) (ys:List Int):Bool:=decide (okRe x ys)
theorem qnV {x:Fp} {xs ys:List Int} (h:okRe x xs):(xs == ys)=reEq x ys:=by
 unfold reEq
 by_cases e:okRe x ys
 ·rw[decide_eq_true e,beq_iff_eq]
  exact qgV (b:=268435456) (by decide) (h.1.trans e.1.symm) h.2.1 e.2.1 (h.2.2.trans e.2.2.symm)
 ·rw[decide_eq_false e,beq_eq_false_iff_ne]
  rintro rfl
  exact e h
theorem qnW {x y:Fp} {xs ys:List Int} (h:okRe x xs) (h2:okRe y ys):(xs == ys)=decide (x=y):=by
 by_cases e:x=y
 ·subst e
  rw[decide_eq_true rfl,beq_iff_eq]
  exact qgV (b:=268435456) (by decide) (h.1.trans h2.1.symm) h.2.1 h2.2.1 (h.2.2.trans h2.2.2.symm)
 ·rw[decide_eq_false e,beq_eq_false_iff_ne]
  rintro rfl
  apply e
  apply Fin.ext
  exact Int.ofNat_inj.1 (h.2.2.symm.trans h2.2.2)
end Go.Sx
end
section
namespace Go.Sx
structure Om where
 nadd:Nat->Nat->Nat
 nsub:Nat->Nat->Nat
 nmul:Nat->Nat->Nat
 toN:Int->Nat
 ofN:Nat->Int
 bin:BinOp->IntKind->Int->Int->Int
 cmp:BinOp->Int->Int->Bool
 cv:IntKind->Int->Int
 un:UnOp->IntKind->Int->Int
 bnot:Bool->Bool
 bite:Bool->Bool->Bool->Bool
 beq:List Int->List Int->Bool
 at':List Int->Nat->Int
 at2:List (List Int)->Nat->List Int
 sub:List Int->Nat->Nat->List Int
 sub2:List (List Int)->Nat->Nat->List (List Int)
 put:List Int->Nat->List Int->List Int
 set:List Int->Nat->Int->List Int
 cat:List Int->List Int->List Int
 zer:Nat->List Int
 len:List Int->Nat
 len2:List (List Int)->Nat
 imin:Int->Int->Int
 imax:Int->Int->Int
 adds:Int->Int->Int->Int
 addc:Int->Int->Int->Int
 subs:Int->Int->Int->Int
 subc:Int->Int->Int->Int
 hide:(α:Type)->(Unit->α)->α
inductive SN where
 | l (n:Nat)
 | s (n:Nat)
def SN.v:SN->Nat
 | .l n=>n
 | .s n=>n
def SN.add (Ω:Om):SN->SN->SN
 | .l 0,b=>b
 | a,.l 0=>a
 | .l a,.l b =>.l (a+b)
 | a,b =>.s (Ω.nadd a.v b.v)
def SN.mulc (Ω:Om) (c:Nat):SN->SN
 | .l a =>.l (a*c)
 | .s a=>match c with
   | 1 =>.s a
   | c =>.s (Ω.nmul a c)
def SN.sub (Ω:Om):SN->SN->SN
 | a,.l 0=>a
 | .l a,.l b =>.l (a-b)
 | a,b =>.s (Ω.nsub a.v b.v)
inductive Col
 | ints (k:IntKind) (xs:List Int)
 | byts (xss:List (List Int))
 deriving Inhabited
def qda:List Col->Nat->Option Col
 | [],_=>none
 | c :: l,i=>match i with
   | 0=>some c
   | i+1=>qda l i
def colN:List Col->Nat
 | []=>0
 | _ :: l=>Nat.succ (colN l)
inductive SVal where
 | junk
 | lit (k:IntKind) (n:Int)
 | int (k:IntKind) (n:Int)
 | bl (b:Bool)
 | bs (b:Bool)
 | val (v:Value)
 | row (k:IntKind) (n:Nat) (xs:List Int)
 | seq (k:IntKind) (xs:List Int)
 | agg (l:List SVal)
 | lst (l:List SVal)
 | ptr (id:Nat) (off:SN)
 | sl (id es:Nat) (off len cap:SN)
 | roi (k:IntKind) (xs:List Int)
 | rol (k:IntKind) (xss:List (List Int))
 | ror (k:IntKind) (es:Nat) (xss:List (List Int))
 | rop (c:SVal) (off:SN)
 | tup (l:List SVal)
 | fn (f:FuncId) (first caps:List SVal)
 | roe (cols:List Col) (n:Nat)
 | roq (cols:List Col) (n:Nat) (i:SN) (f:Nat)
 | fr (k:IntKind) (xs:List Int) (cap:Nat)
 | frp (l:List SVal)
 | ab (p:Pay)
 | roa (q:PayL)
 | roaq (q:PayL) (i:SN)
 | yld (id:Nat)
 | sab (q:PayL)
 | fra (q:PayL) (cap:Nat)
 | lsr (l:List SVal) (xss:List (List Int))
 | lck (k:IntKind) (xs:List Int)
 deriving Inhabited
abbrev Heap:=List (Nat × SVal)
def SVal.sz:SVal->Nat
 | .row _ n _=>n
 | .agg l=>szL l
 | .seq .. => 0
 | .sab _=>0
 | .lck .. => 0
 | .lsr .. => 0
 | .lst _=>0
 | .junk=>0
 | .tup _=>0
 | .fr .. => 0
 | .fra .. => 0
 | .frp _=>0
 | .ab p=>p.n
 | _=>1
where szL:List SVal->Nat
 | []=>0
 | c :: l=>match l with
   | []=>c.sz
   | l=>match c.sz,szL l with
     | 0,_=>0
     | _,0=>0
     | a,b=>a+b
def SVal.isOne:SVal->Bool
 | .lit .. | .int .. | .bl _ | .bs _ | .val _ | .ptr .. | .sl .. | .roi .. | .rol .. | .ror .. | .rop .. | .fn .. | .roe .. | .roq .. | .roa _ | .roaq .. | .yld _=>true
 | _=>false
def SVal.isAgg:SVal->Bool
 | .row .. => true
 | .agg _=>true
 | .ab _=>true
 | _=>false
inductive TD where
 | int (k:IntKind)|bool|str|ptr (e:TypeId)|slice (e:TypeId)|arr (n:Nat) (e:TypeId)|st (fs:List (Nat × TypeId))|other
structure TI where
 size:Nat
 agg:Bool
 bytes:Nat
 zero:SVal
 d:TD
structure PR where
 pre:Prop
 X:Type
 post:X->Prop
 res:X->SVal
def PR.none:PR:=⟨False,Unit,fun _=>False,fun _ =>.junk⟩
abbrev qe:=List SVal->PR
structure MR where
 pre:Prop
 X:Type
 post:X->Prop
 res:X->List SVal
 out:X->List SVal
def MR.none:MR:=⟨False,Unit,fun _=>False,fun _=>[],fun _=>[]⟩
abbrev qU:=List SVal->List SVal->MR
inductive XK where
 | add
 | sub
def strB (s:ByteArray):List Int:=s.data.toList.map fun b=>(b.toNat:Int)
structure Env where
 T:TypeId->Option TI
 G:FuncId->Option qe
 inl:FuncId->Option Func
 glob:Nat->SVal
 Ω:Om
 M:FuncId->Option qU
 X:FuncId->Option XK
def Env.into (E:Env) (g:FuncId):Bool:=(E.inl g).isSome || (E.M g).isSome
def getT:List SVal->Nat->SVal
 | [],_ =>.junk
 | v :: _,0=>v
 | _ :: r,n+1=>getT r n
def setT:List SVal->Nat->SVal->List SVal
 | [],_,_=>[]
 | _ :: r,0,x=>x :: r
 | v :: r,n+1,x=>v :: setT r n x
def putD (ts:List SVal) (d:Option Nat) (v:SVal):List SVal :=
 match d with
 | some d=>setT ts d v
 | none=>ts
def look:Heap->Nat->SVal
 | [],_ =>.junk
 | (i,v) :: r,j=>match Nat.beq i j with
   | true=>v
   | false=>look r j
def updH:Heap->Nat->SVal->Heap
 | [],_,_=>[]
 | (i,v) :: r,j,x=>match Nat.beq i j with
   | true=>(i,x) :: r
   | false=>(i,v) :: updH r j x
def delH:Heap->Nat->Heap
 | [],_=>[]
 | (i,v) :: r,j=>match Nat.beq i j with
   | true=>r
   | false=>(i,v) :: delH r j
def insH (i:Nat) (c:SVal):Heap->Heap
 | []=>[(i,c)]
 | (j,d) :: r=>match Nat.ble j i with
   | true=>(i,c) :: (j,d) :: r
   | false=>(j,d) :: insH i c r
def qC:List (Nat × SVal)->Heap->Heap
 | [],h=>h
 | (i,c) :: r,h=>qC r (insH i c h)
def keq:IntKind->IntKind->Bool
 | .i8,.i8 | .i16,.i16 | .i32,.i32 | .i64,.i64 | .u8,.u8 | .u16,.u16 | .u32,.u32 | .u64,.u64=>true
 | _,_=>false
def qa4:List SVal->Nat->List SVal
 | [],_=>[]
 | c :: l,m=>match m with
   | 0=>[]
   | m=>c :: qa4 l (m-c.sz)
section
variable (E:Env)
def evl (ts:List SVal):Operand->SVal
 | .tmp t=>getT ts t
 | .const v=>match v with
   | .int k n =>.lit k n
   | .bool b =>.bl b
   | .agg _ =>.junk
   | .tuple _ =>.junk
   | v =>.val v
 | .func f =>.fn f [] []
 | .global g=>E.glob g
mutual
def qL (off m:Nat) (ag:Bool):SVal->SVal
 | .row k n xs=>match ag with
   | true=>match Nat.beq m n with
     | true =>.row k n xs
     | false =>.row k m (E.Ω.sub xs off m)
   | false =>.int k (E.Ω.at' xs off)
 | .seq k xs=>match ag with
   | true =>.row k m (E.Ω.sub xs off m)
   | false =>.int k (E.Ω.at' xs off)
 | .agg l=>getL off m ag l
 | .lst l=>match ag with
   | true =>.junk
   | false=>getT l off
 | .ab p=>match ag && (Nat.beq off 0 && Nat.beq m p.n)with
   | true =>.ab p
   | false =>.junk
 | .sab _ =>.junk
 | .lsr .. =>.junk
 | .lck .. =>.junk
 | c=>match ag with
   | true =>.junk
   | false=>c
def getL (off m:Nat) (ag:Bool):List SVal->SVal
 | [] =>.junk
 | c :: l=>match Nat.ble c.sz off with
   | true=>match Nat.beq c.sz 0 with
     | true =>.junk
     | false=>getL (off-c.sz) m ag l
   | false=>match Nat.ble (off+m) c.sz with
     | true=>match (Nat.beq off 0 && Nat.beq m c.sz && (c.isAgg == ag))with
       | true=>c
       | false=>qL off m ag c
     | false=>match off,ag,Nat.beq (SVal.sz.szL (qa4 (c :: l) m)) m with
       | 0,true,true =>.agg (qa4 (c :: l) m)
       | _,_,_ =>.junk
end
mutual
def qG (off m:Nat) (v:SVal):SVal->SVal
 | .row k n xs=>match v with
   | .row k' m' ys=>match keq k k',Nat.beq m n with
     | true,true =>.row k' m' ys
     | true,false =>.row k n (E.Ω.put xs off ys)
     | false,_ =>.junk
   | .lit k' x=>match keq k k' with
     | true =>.row k n (E.Ω.set xs off x)
     | false =>.junk
   | .int k' x=>match keq k k' with
     | true =>.row k n (E.Ω.set xs off x)
     | false =>.junk
   | .ab p=>match Nat.beq off 0 && Nat.beq m n with
     | true =>.ab p
     | false =>.junk
   | _ =>.junk
 | .seq k xs=>match v with
   | .row k' _ ys=>match keq k k' with
     | true =>.seq k (E.Ω.put xs off ys)
     | false =>.junk
   | .lit k' x=>match keq k k' with
     | true =>.seq k (E.Ω.set xs off x)
     | false =>.junk
   | .int k' x=>match keq k k' with
     | true =>.seq k (E.Ω.set xs off x)
     | false =>.junk
   | _ =>.junk
 | .agg l=>match (Nat.beq off 0 && Nat.beq m (SVal.sz.szL l) && v.isAgg)with
   | true=>v
   | false =>.agg (putL off m v l)
 | .sab _ =>.junk
 | .lsr .. =>.junk
 | .lck .. =>.junk
 | .lst l=>match v.isOne with
   | true =>.lst (setT l off v)
   | false =>.junk
 | .ab p=>match v.isAgg && (Nat.beq off 0 && Nat.beq m p.n)with
   | true=>v
   | false =>.junk
 | _=>match v.isOne with
   | true=>v
   | false =>.junk
def putL (off m:Nat) (v:SVal):List SVal->List SVal
 | []=>[.junk]
 | c :: l=>match Nat.beq c.sz 0 with
   | true=>[.junk]
   | false=>match Nat.ble c.sz off with
     | true=>c :: putL (off-c.sz) m v l
     | false=>match Nat.ble (off+m) c.sz with
       | true=>match (Nat.beq off 0 && Nat.beq m c.sz && (c.isAgg == v.isAgg))with
         | true=>v :: l
         | false=>qG off m v c :: l
       | false=>[.junk]
end
mutual
def qz:SVal->Bool
 | .junk=>false
 | .fr .. => false
 | .fra .. => false
 | .frp _=>false
 | .tup _=>false
 | .agg l=>qa5 l
 | _=>true
def qa5:List SVal->Bool
 | []=>true
 | c :: l=>qz c && qa5 l
end
inductive Out where
 | bad
 | set (v:SVal)
 | setp (pre:Unit->Prop) (v:SVal)
 | new (c:SVal) (v:Nat->SVal)
 | newp (pre:Unit->Prop) (c:SVal) (v:Nat->SVal)
 | call (p:Option (Unit->Prop)) (s:PR)
 | into (f:FuncId) (args:List SVal)
 | yld (id:Nat) (args:List SVal)
 | upd (id:Nat) (c:SVal)
 | updp (pre:Unit->Prop) (id:Nat) (c:SVal)
 | app (es bytes:Nat) (s:SVal) (x:SVal)
 | cpy (p:Unit->Prop) (v:SVal) (id:Nat) (c:SVal)
 | any (p:Prop)
 | mkb (p:Unit->Prop) (c:SVal) (n:SN)
def qaA (o m:Nat):SVal->Bool
 | .row _ n _=>Nat.ble (o+m) n
 | .agg l=>Nat.ble (o+m) (SVal.sz.szL l)
 | .lst l=>Nat.ble (o+m) l.length
 | .ab p=>Nat.ble (o+m) p.n
 | .seq .. => false
 | .sab _=>false
 | .lck .. => false
 | .lsr .. => false
 | .junk=>false
 | _=>Nat.beq o 0 && Nat.beq m 1
def lenO (q:PayL):Nat :=
 match q with
 | .fe xs=>E.Ω.hide _ fun _=>xs.length
 | .pt Ps=>E.Ω.hide _ fun _=>Ps.length
def atO (q:PayL) (i:Nat):Pay :=
 match q with
 | .fe xs =>.fe (E.Ω.hide _ fun _=>xs.getD i 0)
 | .pt Ps =>.pt (E.Ω.hide _ fun _=>Ps.getD i ⟨0,1⟩)
def rd (t:TI) (c:SVal) (off:SN):Out :=
 match off with
 | .l o=>match c with
   | .seq k xs =>.setp (fun _=>o+t.size<=xs.length) (qL E o t.size t.agg (.seq k xs))
   | .sab q=>match t.agg && Nat.beq t.size q.es with
     | true =>.setp (fun _=>o % q.es=0/\o / q.es<q.len) (.ab (atO E q (o / q.es)))
     | false =>.bad
   | c=>match qaA o t.size c with
     | true =>.set (qL E o t.size t.agg c)
     | false =>.bad
 | .s o=>match c with
   | .row k n xs=>match t.agg with
     | true =>.setp (fun _=>o+t.size<=n) (.row k t.size (E.Ω.sub xs o t.size))
     | false =>.setp (fun _=>o+t.size<=n) (.int k (E.Ω.at' xs o))
   | .seq k xs=>match t.agg with
     | true =>.setp (fun _=>o+t.size<=xs.length) (.row k t.size (E.Ω.sub xs o t.size))
     | false =>.setp (fun _=>o+t.size<=xs.length) (.int k (E.Ω.at' xs o))
   | .sab q=>match t.agg && Nat.beq t.size q.es with
     | true =>.setp (fun _=>o % q.es=0/\o / q.es<q.len) (.ab (atO E q (o / q.es)))
     | false =>.bad
   | _ =>.bad
def vsz:SVal->Nat
 | .row _ n _=>n
 | .agg l=>SVal.sz.szL l
 | .ab p=>p.n
 | _=>1
def wr (t:TI) (id:Nat) (c:SVal) (off:SN) (v:SVal):Out :=
 match Nat.beq (vsz v) t.size && ((v.isOne || v.isAgg) && qz v)with
 | false =>.bad
 | true=>match off with
   | .l o=>match c with
     | .seq k xs=>match qG E o t.size v (.seq k xs)with
       | .junk =>.bad
       | c' =>.updp (fun _=>o+t.size<=xs.length) id c'
     | c=>match qaA o t.size c && qz (qG E o t.size v c)with
       | true =>.upd id (qG E o t.size v c)
       | false =>.bad
   | .s o=>match c with
     | .row k n xs=>match v with
       | .row k' m ys=>match keq k k' with
         | true =>.updp (fun _=>o+m<=n) id (.row k n (E.Ω.put xs o ys))
         | false =>.bad
       | .lit k' x=>match keq k k' with
         | true =>.updp (fun _=>o<n) id (.row k n (E.Ω.set xs o x))
         | false =>.bad
       | .int k' x=>match keq k k' with
         | true =>.updp (fun _=>o<n) id (.row k n (E.Ω.set xs o x))
         | false =>.bad
       | _ =>.bad
     | .seq k xs=>match v with
       | .row k' m ys=>match keq k k' with
         | true =>.updp (fun _=>o+m<=xs.length) id (.seq k (E.Ω.put xs o ys))
         | false =>.bad
       | .lit k' x=>match keq k k' with
         | true =>.updp (fun _=>o<xs.length) id (.seq k (E.Ω.set xs o x))
         | false =>.bad
       | .int k' x=>match keq k k' with
         | true =>.updp (fun _=>o<xs.length) id (.seq k (E.Ω.set xs o x))
         | false =>.bad
       | _ =>.bad
     | _ =>.bad
def cmpL (op:BinOp) (a b:Int):Bool :=
 match op with
 | .eql=>a == b
 | .neq=>a != b
 | .lss=>a<b
 | .leq=>a<=b
 | .gtr=>a > b
 | .geq=>a >= b
 | _=>false
def qdb (op:BinOp) (a b:ByteArray):Bool :=
 match op with
 | .eql=>a.toList == b.toList
 | .neq => !(a.toList == b.toList)
 | .lss=>Op.bytesLess a.toList b.toList
 | .leq=>Op.bytesLess a.toList b.toList || a.toList == b.toList
 | .gtr => !(Op.bytesLess a.toList b.toList || a.toList == b.toList)
 | .geq => !(Op.bytesLess a.toList b.toList)
 | _=>false
def BinOp.isCmp:BinOp->Bool
 | .eql | .neq | .lss | .leq | .gtr | .geq=>true
 | _=>false
def binL (op:BinOp) (k:IntKind) (a b:Int):Int :=
 match op with
 | .add=>k.wrap (a+b)
 | .sub=>k.wrap (a-b)
 | .mul=>k.wrap (a*b)
 | .quo=>k.wrap (a.tdiv b)
 | .rem=>a.tmod b
 | .shl=>k.wrap (a*2^(min b.toNat k.bits))
 | .shr=>a.fdiv (2^(min b.toNat k.bits))
 | .and=>k.wrap (BitVec.ofInt k.bits a &&& BitVec.ofInt k.bits b).toNat
 | .or=>k.wrap (BitVec.ofInt k.bits a ||| BitVec.ofInt k.bits b).toNat
 | .xor=>k.wrap (BitVec.ofInt k.bits a ^^^ BitVec.ofInt k.bits b).toNat
 | .andNot=>k.wrap (BitVec.ofInt k.bits a &&& ~~~BitVec.ofInt k.bits b).toNat
 | _=>0
def unL (op:UnOp) (k:IntKind) (a:Int):Int :=
 match op with
 | .neg=>k.wrap (0-a)
 | .xor=>k.wrap (BitVec.ofInt k.bits (if k.signed then -1 else k.max) ^^^ BitVec.ofInt k.bits a).toNat
 | _=>0
def qbz:BinOp->Bool
 | .shl | .shr=>true
 | _=>false
def qcr:BinOp->Bool
 | .quo | .rem=>true
 | _=>false
def qcs:BinOp->Bool
 | .add | .sub | .mul | .quo | .rem | .and | .or | .xor | .andNot | .shl | .shr=>true
 | _=>false
def intV:SVal->Option (IntKind × Int)
 | .lit k n=>some (k,n)
 | .int k n=>some (k,n)
 | _=>none
def qct (t:TypeId):Bool :=
 match E.T t with
 | some ti=>match ti.d with
   | .arr _ e=>match E.T e with
     | some te=>match te.d with
       | .int _=>true
       | _=>false
     | none=>false
   | _=>false
 | none=>false
def slTy (t:TypeId):Bool :=
 match E.T t with
 | some ti=>match ti.d with
   | .slice _=>true
   | _=>false
 | none=>false
def qi8 (t:TypeId):Bool :=
 match E.T t with
 | some ti=>match ti.d with
   | .ptr _=>true
   | _=>false
 | none=>false
def qi9:BinOp->Bool
 | .eql | .neq=>true
 | _=>false
def neqB:BinOp->Bool
 | .neq=>true
 | _=>false
def qcu (t:TypeId):Nat :=
 match E.T t with
 | some ti=>match ti.d with
   | .arr n _=>n
   | _=>0
 | none=>0
def qeu:SVal->Option Bool
 | .bl b=>some b
 | .bs b=>some b
 | _=>none
def qja (t:TypeId):Bool :=
 match E.T t with
 | some ti=>match ti.d with
   | .bool=>true
   | _=>false
 | none=>false
def qcv (op:BinOp) (t:TypeId) (x y:SVal):Out :=
 match qeu x,qeu y,qja E t with
 | some a,some b,true=>match op with
   | .eql =>.set (.bs (E.Ω.bite a b (E.Ω.bnot b)))
   | .neq =>.set (.bs (E.Ω.bite a (E.Ω.bnot b) b))
   | _ =>.bad
 | _,_,_ =>.bad
def binS (op:BinOp) (t:TypeId) (x y:SVal):Out :=
 match x,y with
 | .lit k a,.lit k' b=>match qbz op with
   | true=>match decide (0<=b)with
     | true =>.set (.lit k (binL op k a b))
     | false =>.bad
   | false=>match keq k k' with
     | true=>match BinOp.isCmp op with
       | true =>.set (.bl (cmpL op a b))
       | false=>match qcr op && decide (b=0)with
         | true =>.bad
         | false=>match qcs op with
           | true =>.set (.lit k (binL op k a b))
           | false =>.bad
     | false =>.bad
 | x,y =>  match intV x,intV y with
   | some (k,a),some (k',b)=>match qbz op with
     | true=>match y with
       | .lit _ _=>match decide (0<=b)with
         | true =>.set (.int k (E.Ω.bin op k a b))
         | false =>.bad
       | _ =>.setp (fun _=>0<=b) (.int k (E.Ω.bin op k a b))
     | false=>match keq k k' with
       | false =>.bad
       | true=>match BinOp.isCmp op with
         | true =>.set (.bs (E.Ω.cmp op a b))
         | false=>match qcr op with
           | true=>match y with
             | .lit _ b'=>match decide (b'=0)with
               | true =>.bad
               | false =>.set (.int k (E.Ω.bin op k a b))
             | _ =>.setp (fun _=>b ≠ 0) (.int k (E.Ω.bin op k a b))
           | false=>match qcs op with
             | true =>.set (.int k (E.Ω.bin op k a b))
             | false =>.bad
   | _,_=>match op,x,y with
     | .eql,.row k n xs,.row k' n' ys=>match qct E t && (keq k k' && (Nat.beq n n' && Nat.beq (qcu E t) n))with
       | true =>.set (.bs (E.Ω.beq xs ys))
       | false =>.bad
     | .neq,.row k n xs,.row k' n' ys=>match qct E t && (keq k k' && (Nat.beq n n' && Nat.beq (qcu E t) n))with
       | true =>.set (.bs (E.Ω.bnot (E.Ω.beq xs ys)))
       | false =>.bad
     | .eql,.ab (.re x),.row k' n' ys=>match qct E t && (keq .i64 k' && (Nat.beq 16 n' && Nat.beq (qcu E t) 16))with
       | true =>.set (.bs (E.Ω.hide Bool fun _=>reEq x ys))
       | false =>.bad
     | .eql,.ab (.re x),.ab (.re y)=>match qct E t && Nat.beq (qcu E t) 16 with
       | true =>.set (.bs (E.Ω.hide Bool fun _=>decide (x=y)))
       | false =>.bad
     | .eql,.roi _ xs,.val (.slice none 0 0)=>match slTy E t with
       | true =>.any (xs=[])
       | false =>.bad
     | .eql,.sl _ _ _ _ cap,.val (.slice none 0 0)=>match slTy E t with
       | true =>.any (cap.v=0)
       | false =>.bad
     | op,x,.val (.pointer none)=>match qi8 E t,qi9 op with
       | true,true=>match x with
         | .ptr _ _ =>.set (.bl (neqB op))
         | .rop _ _ =>.set (.bl (neqB op))
         | .val (.pointer none) =>.set (.bl (!(neqB op)))
         | _ =>.bad
       | _,_ =>.bad
     | op,.val (.string a),.val (.string b)=>match BinOp.isCmp op with
       | true =>.set (.bs (E.Ω.hide Bool fun _=>qdb op a b))
       | false =>.bad
     | op,x,y=>qcv E op t x y
def idx (n:SN):SVal->Option (Option (Unit->Prop) × SN)
 | .lit _ i=>match n with
   | .l m=>match decide (0<=i),Nat.blt i.toNat m with
     | true,true=>some (none,.l i.toNat)
     | _,_=>none
   | .s m=>match decide (0<=i)with
     | true=>some (some fun _=>i.toNat<m,.l i.toNat)
     | false=>none
 | .int _ i=>some (some fun _=>0<=i/\i<n.v,.s (E.Ω.toN i))
 | _=>none
def qag (p:Option (Unit->Prop)) (v:SVal):Out :=
 match p with
 | none =>.set v
 | some p =>.setp p v
def qbA:SVal->Bool
 | .rol .. => false
 | .ror .. => false
 | _=>true
def qdc:List SVal->Option (List Fp)
 | []=>some []
 | s :: l=>match s with
   | .ab (.fe x)=>match qdc l with
     | some xs=>some (x :: xs)
     | none=>none
   | _=>none
def qdd:List SVal->Option (List AP)
 | []=>some []
 | s :: l=>match s with
   | .ab (.pt x)=>match qdd l with
     | some xs=>some (x :: xs)
     | none=>none
   | _=>none
def qcw (es:Nat) (l:List SVal):Option PayL :=
 match Nat.beq es 8,Nat.beq es 24 with
 | true,_=>match qdc l with
   | some xs=>some (.fe xs)
   | none=>none
 | _,true=>match qdd l with
   | some xs=>some (.pt xs)
   | none=>none
 | _,_=>none
def qb5 (t:TypeId) (x ix:SVal):Out :=
 match E.T t with
 | some ti=>match ti.d with
   | .arr n e=>match E.T e,idx E (.l n) ix with
     | some te,some (p,i)=>match x with
       | .ptr id off=>qag p (.ptr id (off.add E.Ω (i.mulc E.Ω te.size)))
       | .rop c off=>match qbA c with
         | true=>qag p (.rop c (off.add E.Ω (i.mulc E.Ω te.size)))
         | false =>.bad
       | _ =>.bad
     | _,_ =>.bad
   | .slice e=>match E.T e with
     | some te=>match x with
       | .sl id es off len _=>match Nat.beq te.size es,idx E len ix with
         | true,some (p,i)=>qag p (.ptr id (off.add E.Ω (i.mulc E.Ω es)))
         | _,_ =>.bad
       | .roi k xs=>match te.size,idx E (.s (E.Ω.len xs)) ix with
         | 1,some (p,i)=>qag p (.rop (.seq k xs) i)
         | _,_ =>.bad
       | .rol k xss=>match te.size,idx E (.s (E.Ω.len2 xss)) ix with
         | 1,some (p,i)=>qag p (.rop (.rol k xss) i)
         | _,_ =>.bad
       | .ror k es xss=>match Nat.beq te.size es,idx E (.s (E.Ω.len2 xss)) ix with
         | true,some (p,i)=>qag p (.rop (.ror k es xss) i)
         | _,_ =>.bad
       | .roe cols n=>match Nat.beq te.size (colN cols),idx E (.s n) ix with
         | true,some (p,i)=>qag p (.roq cols n i 0)
         | _,_ =>.bad
       | .roa q=>match Nat.beq te.size q.es,idx E (.s (lenO E q)) ix with
         | true,some (p,i)=>qag p (.roaq q i)
         | _,_ =>.bad
       | _ =>.bad
     | none =>.bad
   | _ =>.bad
 | none =>.bad
def lenI (n:SN):SVal :=
 match n with
 | .l n =>.lit .i64 n
 | .s n =>.int .i64 (E.Ω.ofN n)
def qde:SVal->Option SN
 | .lit _ i=>match decide (0<=i)with
   | true=>some (.l i.toNat)
   | false=>none
 | .int _ i=>some (.s (E.Ω.toN i))
 | _=>none
def qjb:SVal->Prop
 | .int _ i=>0<=i
 | _=>True
def qaF:Option SVal->Prop
 | some v=>qjb v
 | none=>True
def qax (len cap:SN) (lo hi mx:Option SVal):Option ((Unit->Prop) × SN × SN × SN) :=
 let m:=match mx with
  | some v=>qde E v
  | none=>some cap
 let h:=match hi with
  | some v=>qde E v
  | none=>some len
 let l:=match lo with
  | some v=>qde E v
  | none=>some (.l 0)
 match l,h,m with
 | some l,some h,some m=>some (fun _=>qaF lo/\qaF hi/\qaF mx /\
   l.v<=h.v/\h.v<=m.v/\m.v<=cap.v,l,h,m)
 | _,_,_=>none
def qb6 (hp:Heap) (t:TypeId) (x:SVal) (lo hi mx:Option SVal):Out :=
 match E.T t with
 | some ti=>match ti.d with
   | .arr n e=>match x with
     | .ptr id (.l o)=>match E.T e,qax E (.l n) (.l n) lo hi mx with
       | some te,some (p,l,h,m)=>match Nat.blt 0 n && qaA o (n*te.size) (look hp id)with
         | true =>.setp p (.sl id te.size ((SN.l o).add E.Ω (l.mulc E.Ω te.size)) (h.sub E.Ω l) (m.sub E.Ω l))
         | false =>.bad
       | _,_ =>.bad
     | _ =>.bad
   | .slice e=>match x with
     | .sl id es off len cap=>match E.T e with
       | some te=>match Nat.beq te.size es,qax E len cap lo hi mx with
         | true,some (p,l,h,m) =>.setp p (.sl id es (off.add E.Ω (l.mulc E.Ω es)) (h.sub E.Ω l) (m.sub E.Ω l))
         | _,_ =>.bad
       | none =>.bad
     | .val (.slice none 0 0)=>match E.T e,qax E (.l 0) (.l 0) lo hi mx with
       | some _,some (p,_,_,_) =>.setp p (.val (.slice none 0 0))
       | _,_ =>.bad
     | .roi k xs=>match mx,E.T e with
       | none,some te=>match Nat.beq te.size 1,qax E (.s (E.Ω.len xs)) (.s (E.Ω.len xs)) lo hi none with
         | true,some (p,l,h,_) =>.setp p (.roi k (E.Ω.sub xs l.v (h.sub E.Ω l).v))
         | _,_ =>.bad
       | some mv,some te=>match Nat.beq te.size 1,qax E (.s (E.Ω.len xs)) (.s (E.Ω.len xs)) lo hi (some mv)with
         | true,some (p,l,h,_) =>.setp p (.roi k (E.Ω.sub xs l.v (h.sub E.Ω l).v))
         | _,_ =>.bad
       | _,none =>.bad
     | .rol k xss=>match mx,E.T e with
       | none,some te=>match Nat.beq te.size 1,qax E (.s (E.Ω.len2 xss)) (.s (E.Ω.len2 xss)) lo hi none with
         | true,some (p,l,h,_) =>.setp p (.rol k (E.Ω.sub2 xss l.v (h.sub E.Ω l).v))
         | _,_ =>.bad
       | _,_ =>.bad
     | _ =>.bad
   | _ =>.bad
 | none =>.bad
def qj (h:Heap):SVal->SVal
 | .sl id 1 off len _=>match look h id with
   | .seq k xs =>.roi k (E.Ω.sub xs off.v len.v)
   | .lck k xs =>.roi k (E.Ω.sub xs off.v len.v)
   | .row k n xs=>match off,len with
     | .l 0,.l m=>match Nat.beq m n with
       | true =>.roi k xs
       | false =>.roi k (E.Ω.sub xs 0 m)
     | off,len =>.roi k (E.Ω.sub xs off.v len.v)
   | _ =>.junk
 | .val (.slice none 0 0) =>.roi .u8 []
 | .lit k n =>.int k n
 | .bl b =>.bs b
 | .ptr id off=>match look h id with
   | .junk =>.junk
   | .rol .. =>.junk
   | .ror .. =>.junk
   | c =>.rop c off
 | v=>v
def bPre (h:Heap):SVal->Prop
 | .sl id 1 off len _=>match look h id with
   | .seq _ xs=>off.v+len.v<=xs.length
   | .lck _ xs=>off.v+len.v<=xs.length
   | .row _ n _=>off.v+len.v<=n
   | _=>True
 | .sl id _ _ len _=>match look h id with
   | .sab q=>len.v=q.len
   | _=>True
 | _=>True
def qaG (h:Heap):List SVal->Prop
 | []=>True
 | s :: l=>bPre h s/\qaG h l
def hasSl:List SVal->Bool
 | []=>false
 | .sl .. :: _=>true
 | _ :: l=>hasSl l
def qbB:List SVal->Option (List (List Int))
 | []=>some []
 | s :: l=>match s with
   | .roi .u8 xs=>match qbB l with
     | some xss=>some (xs :: xss)
     | none=>none
   | _=>none
def qaa (h:Heap):SVal->SVal
 | .lit k n =>.int k n
 | .bl b =>.bs b
 | .val (.slice none 0 0) =>.roi .u8 []
 | .sl id es off len cap=>match look h id with
   | .sab q=>match off,Nat.beq es q.es with
     | .l 0,true =>.roa q
     | _,_ =>.junk
   | _=>qj E h (.sl id es off len cap)
 | s=>s
def qjc:SVal->Bool
 | .int .. | .bs _ | .roi .. | .row .. | .val _ | .rol .. | .roe .. | .ab _ | .roa _=>true
 | _=>false
def allC:List SVal->Bool
 | []=>true
 | s :: l=>match qjc s with
   | true=>allC l
   | false=>false
def qO (h:Heap) (s:SVal):SVal :=
 match s with
 | .sl id 1 off len cap=>match look h id with
   | .lst l=>match off,len with
     | .l 0,.l m=>match Nat.beq m l.length,qbB (l.map (qj E h))with
       | true,some xss =>.rol .u8 xss
       | _,_ =>.junk
     | _,_ =>.junk
   | .lsr l xss=>match off,qbB (l.map (qj E h))with
     | .l 0,some yss =>.rol .u8 (yss++xss)
     | _,_ =>.junk
   | _=>qj E h s
 | .ptr id (.l 0)=>match look h id with
   | .agg l=>match allC (l.map (qaa E h))with
     | true =>.rop (.agg (l.map (qaa E h))) (.l 0)
     | false=>qj E h s
   | _=>qj E h s
 | .sl id es (.l 0) (.l n) cap=>match look h id with
   | .agg l=>match Nat.beq l.length n,qcw es l with
     | true,some q =>.roa q
     | _,_ =>.junk
   | .sab q=>match Nat.beq es q.es with
     | true =>.roa q
     | false =>.junk
   | _=>qj E h s
 | .sl id es (.l 0) (.s n) cap=>match look h id with
   | .sab q=>match Nat.beq es q.es with
     | true =>.roa q
     | false =>.junk
   | _=>qj E h s
 | s=>qj E h s
def qa6 (h:Heap) (s:SVal):Prop :=
 match s with
 | .sl id 1 off len cap=>match look h id with
   | .lst l=>qaG h l
   | .lsr l xss=>qaG h l/\len.v=l.length+xss.length
   | _=>bPre h s
 | .ptr id (.l 0)=>match look h id with
   | .agg l=>qaG h l
   | _=>True
 | .sl id es off len cap=>match look h id with
   | .sab q=>len.v=q.len
   | _=>True
 | _=>True
def qbC (h:Heap):List SVal->Prop
 | []=>True
 | s :: l=>qa6 h s/\qbC h l
def hasS2 (h:Heap):List SVal->Bool
 | []=>false
 | s :: l=>match s with
   | .sl .. => true
   | .ptr id (.l 0)=>match look h id with
     | .agg _=>true
     | _=>hasS2 h l
   | _=>hasS2 h l
def qdf (h:Heap) (l:List SVal):Option (Unit->Prop) :=
 match hasS2 h l with
 | true=>some fun _=>qbC h l
 | false=>none
def qaT (h:Heap) (s:SVal):Option (IntKind × List Int) :=
 match qj E h s with
 | .roi k xs=>some (k,xs)
 | _=>none
def lenS (t:TypeId) (x:SVal):Out :=
 match E.T t with
 | some ti=>match ti.d with
   | .arr n _ =>.set (.lit .i64 n)
   | .ptr e=>match E.T e with
     | some te=>match te.d with
       | .arr n _ =>.set (.lit .i64 n)
       | _ =>.bad
     | none =>.bad
   | .slice _=>match x with
     | .sl _ _ _ len _ =>.set (lenI E len)
     | .roi _ xs =>.set (.int .i64 (E.Ω.ofN (E.Ω.len xs)))
     | .rol _ xss =>.set (.int .i64 (E.Ω.ofN (E.Ω.len2 xss)))
     | .ror _ _ xss =>.set (.int .i64 (E.Ω.ofN (E.Ω.len2 xss)))
     | .roe _ n =>.set (.int .i64 (E.Ω.ofN n))
     | .roa q =>.set (.int .i64 (E.Ω.ofN (lenO E q)))
     | .val (.slice none 0 0) =>.set (.lit .i64 0)
     | _ =>.bad
   | .str=>match x with
     | .val (.string s) =>.set (.int .i64 (E.Ω.ofN (E.Ω.len (strB s))))
     | _ =>.bad
   | _ =>.bad
 | none =>.bad
def capS (t:TypeId) (x:SVal):Out :=
 match E.T t with
 | some ti=>match ti.d with
   | .slice _=>match x with
     | .sl _ _ _ _ cap =>.set (lenI E cap)
     | .val (.slice none 0 0) =>.set (.lit .i64 0)
     | _ =>.bad
   | _ =>.bad
 | none =>.bad
def mm (isMax:Bool) (x y:SVal):Out :=
 match x,y with
 | .lit k a,.lit _ b =>.set (.lit k (match isMax with|true=>max a b|false=>min a b))
 | x,y=>match intV x,intV y with
   | some (k,a),some (_,b) =>.set (.int k (match isMax with|true=>E.Ω.imax a b|false=>E.Ω.imin a b))
   | _,_ =>.bad
def qbD (fs:List (Nat × TypeId)):Nat->Option (Nat × TypeId)
 | 0=>match fs with
   | []=>none
   | f :: _=>some f
 | n+1=>match fs with
   | []=>none
   | _ :: r=>qbD r n
def qcx (k:IntKind):List SVal->Option (List Int)
 | []=>some []
 | .row k' _ xs :: l=>match keq k k',qcx k l with
   | true,some ys=>some (match l with|[]=>xs|_=>E.Ω.cat xs ys)
   | _,_=>none
 | _=>none
def qgW:List SVal->IntKind
 | .row k _ _ :: _=>k
 | _ =>.u64
def fillP (ts:List SVal) (place:Nat->Option (Nat × Nat)):List (Nat × Operand)->SVal->Option SVal
 | [],c=>some c
 | (i,x) :: r,c=>match place i with
   | some (off,sz)=>match Nat.blt 0 sz && (Nat.beq (vsz (evl E ts x)) sz && (((evl E ts x).isOne || (evl E ts x).isAgg) && (qz (evl E ts x) && (qaA off sz c && qz (qG E off sz (evl E ts x) c)))))with
     | true=>fillP ts place r (qG E off sz (evl E ts x) c)
     | false=>none
   | none=>none
def allT:List (Nat × TypeId)->Bool
 | []=>true
 | (_,t) :: r=>(E.T t).isSome && allT r
def qev (i:Nat):List (Nat × Operand)->Bool
 | []=>true
 | (j,_) :: r=>Nat.beq j i && qev (i+1) r
def qcy (k:IntKind):List SVal->Option (List Int)
 | []=>some []
 | .lit k' n :: l=>match keq k k',qcy k l with
   | true,some xs=>some (n :: xs)
   | _,_=>none
 | .int k' n :: l=>match keq k k',qcy k l with
   | true,some xs=>some (n :: xs)
   | _,_=>none
 | _=>none
def qbt (k:IntKind) (n:Nat):List SVal->Option (List Int)
 | []=>some []
 | .row k' n' xs :: l=>match keq k k' && Nat.beq n n',qbt k n l with
   | true,some ys=>some (match l with|[]=>xs|_=>E.Ω.cat xs ys)
   | _,_=>none
 | .agg l' :: l=>match Nat.beq (SVal.sz.szL l') n,qcx E k l',qbt k n l with
   | true,some xs,some ys=>some (match l with|[]=>xs|_=>E.Ω.cat xs ys)
   | _,_,_=>none
 | _=>none
def qew:List SVal->Bool
 | []=>true
 | s :: l=>s.isOne && qew l
def qex (n:Nat):List SVal->Bool
 | []=>true
 | s :: l=>match s.isAgg && (qz s && Nat.beq (vsz s) n)with
   | true=>qex n l
   | false=>false
def qey (ti:TI):Bool :=
 match ti.d with
 | .slice _=>true
 | _=>false
def extS (k:XK) (args:List SVal):Out :=
 match args with
 | [x,y,c]=>match intV x,intV y,intV c with
   | some (.u64,a),some (.u64,b),some (.u64,c)=>match k with
     | .add =>.setp (fun _=>0<=a/\0<=b/\0<=c/\c<=1) (.tup [.int .u64 (E.Ω.adds a b c),.int .u64 (E.Ω.addc a b c)])
     | .sub =>.setp (fun _=>0<=a/\0<=b/\0<=c/\c<=1/\a<18446744073709551616/\b<18446744073709551616) (.tup [.int .u64 (E.Ω.subs a b c),.int .u64 (E.Ω.subc a b c)])
   | _,_,_ =>.bad
 | _ =>.bad
def qd (   ts:List SVal) (h:Heap):Op->Out
 | .move x =>.set (evl E ts x)
 | .assign x =>.set (evl E ts x)
 | .pick c a b=>match evl E ts c with
   | .bl true =>.set (evl E ts a)
   | .bl false =>.set (evl E ts b)
   | .bs c=>match evl E ts a,evl E ts b with
     | .bl a,.bl b =>.set (.bs (E.Ω.bite c a b))
     | .bs a,.bl b =>.set (.bs (E.Ω.bite c a b))
     | .bl a,.bs b =>.set (.bs (E.Ω.bite c a b))
     | .bs a,.bs b =>.set (.bs (E.Ω.bite c a b))
     | _,_ =>.bad
   | _ =>.bad
 | .alloc t=>match E.T t with
   | some ti =>.new ti.zero fun id =>.ptr id (.l 0)
   | none =>.bad
 | .box _ x=>match qz (evl E ts x) && ((evl E ts x).isOne || (evl E ts x).isAgg)with
   | false =>.bad
   | true =>.new (evl E ts x) fun id =>.ptr id (.l 0)
 | .build t parts=>match E.T t with
   | some ti=>match ti.d with
     | .st fs=>match allT E fs with
       | false =>.bad
       | true=>match fillP E ts (fun i=>match qbD fs i with
         | some (o,ft)=>match E.T ft with
           | some tf=>some (o,tf.size)
           | none=>none
         | none=>none) parts.toList ti.zero with
       | some c=>match c.isAgg with
         | true =>.set c
         | false =>.bad
       | none =>.bad
     | .arr _ e=>match E.T e with
       | some te=>match fillP E ts (fun i=>some (i*te.size,te.size)) parts.toList ti.zero with
         | some c=>match c.isAgg with
           | true =>.set c
           | false =>.bad
         | none =>.bad
       | none =>.bad
     | _ =>.bad
   | none =>.bad
 | .load t x=>match E.T t with
   | some ti=>match evl E ts x with
     | .ptr id off=>rd E ti (look h id) off
     | .rop c off=>match c with
       | .rol k xss=>match qey ti with
         | true=>match off with
           | .l o =>.setp (fun _=>o<xss.length) (.roi k (E.Ω.at2 xss o))
           | .s o =>.setp (fun _=>o<xss.length) (.roi k (E.Ω.at2 xss o))
         | false =>.bad
       | .ror k es xss=>match ti.agg && Nat.beq ti.size es with
         | true=>match off with
           | .l o =>.setp (fun _=>o<xss.length) (.row k es (E.Ω.at2 xss o))
           | .s o =>.setp (fun _=>o<xss.length) (.row k es (E.Ω.at2 xss o))
         | false =>.bad
       | c=>rd E ti c off
     | .roq cols n i f=>match ti.agg,qda cols f with
       | false,some (.ints k xs)=>match i with
         | .l o =>.setp (fun _=>o<n) (.int k (E.Ω.at' xs o))
         | .s o =>.setp (fun _=>o<n) (.int k (E.Ω.at' xs o))
       | false,some (.byts xss)=>match i with
         | .l o =>.setp (fun _=>o<n) (.roi .u8 (E.Ω.at2 xss o))
         | .s o =>.setp (fun _=>o<n) (.roi .u8 (E.Ω.at2 xss o))
       | _,_ =>.bad
     | .roaq q i=>match ti.agg && Nat.beq ti.size q.es with
       | true =>.setp (fun _=>i.v<lenO E q) (.ab (atO E q i.v))
       | false =>.bad
     | _ =>.bad
   | none =>.bad
 | .store t x y=>match E.T t with
   | some ti=>match evl E ts x with
     | .ptr id off=>wr E ti id (look h id) off (evl E ts y)
     | _ =>.bad
   | none =>.bad
 | .nilCheck x=>match evl E ts x with
   | .ptr id off =>.set (.ptr id off)
   | .rop c off =>.set (.rop c off)
   | .fn f a c =>.set (.fn f a c)
   | _ =>.bad
 | .binOp op t x y _=>binS E op t (evl E ts x) (evl E ts y)
 | .unOp op _ x=>match op,evl E ts x with
   | .not,.bl b =>.set (.bl (!b))
   | .not,.bs b =>.set (.bs (E.Ω.bnot b))
   | .neg,.lit k n =>.set (.lit k (unL .neg k n))
   | .neg,.int k n =>.set (.int k (E.Ω.un .neg k n))
   | .xor,.lit k n =>.set (.lit k (unL .xor k n))
   | .xor,.int k n =>.set (.int k (E.Ω.un .xor k n))
   | _,_ =>.bad
 | .convert src dst x=>match E.T dst,(E.T src).isSome with
   | some ti,true=>match ti.d,evl E ts x with
     | .int k,.lit _ n =>.set (.lit k (k.wrap n))
     | .int k,.int _ n =>.set (.int k (E.Ω.cv k n))
     | .slice e,.val (.string s)=>match E.T e,E.T src with
       | some te,some ts=>match te.d,ts.d with
         | .int .u8,.str =>.mkb (fun _=>True) (.lck .u8 (strB s)) (.s (E.Ω.len (strB s)))
         | _,_ =>.bad
       | _,_ =>.bad
     | .slice e,.sl id es off len cap=>match Nat.beq src dst,E.T e,look h id with
       | true,some te,.row k n xs=>match te.d with
         | .int .u8 =>.cpy (fun _=>True) (.sl id es off len cap) id (.lck k xs)
         | _ =>.bad
       | _,_,_ =>.bad
     | .str,v=>match E.T src,qaT E h v with
       | some ts',some (.u8,xs)=>match ts'.d with
         | .slice e=>match E.T e with
           | some te=>match te.d with
             | .int .u8 =>.setp (fun _=>bPre h v) (.val (.string (E.Ω.hide _ fun _=>strOfNums xs)))
             | _ =>.bad
           | none =>.bad
         | _ =>.bad
       | _,_ =>.bad
     | _,_ =>.bad
   | _,_ =>.bad
 | .sliceToArrayPointer t x=>match E.T t with
   | some ti=>match ti.d with
     | .arr n _=>match evl E ts x with
       | .sl id _ off len _ =>.setp (fun _=>0<n/\n<=len.v) (.ptr id off)
       | .roi k xs =>.setp (fun _=>0<n/\n<=xs.length) (.rop (.seq k xs) (.l 0))
       | _ =>.bad
     | _ =>.bad
   | none =>.bad
 | .makeFunc f first caps=>match f with
   | .func f =>.set (.fn f (first.toList.map (evl E ts)) (caps.toList.map (evl E ts)))
   | _ =>.bad
 | .makeSlice t l c=>match E.T t with
   | some ti=>match ti.d with
     | .slice e=>match E.T e with
       | some te=>match te.zero,evl E ts l,evl E ts c with
         | .lit k z,.lit _ n,.lit _ m=>match decide (z=0) && (Nat.beq te.size 1 && (decide (0<=n) && (decide (n<=m) && (Nat.ble (te.bytes*m.toNat) 1073741824 && Nat.ble m.toNat 1073741824))))with
           | true =>.new (.row k m.toNat (E.Ω.zer m.toNat)) fun id =>.sl id 1 (.l 0) (.l n.toNat) (.l m.toNat)
           | false =>.bad
         | .lit k z,.int _ n,.int _ m=>match decide (z=0) && Nat.beq te.size 1 with
           | true =>.newp (fun _=>0<=n/\n=m/\te.bytes*m.toNat<=140737488355328/\m<=140737488355328) (.seq k (E.Ω.zer (E.Ω.toN m))) fun id =>.sl id 1 (.l 0) (.s (E.Ω.toN n)) (.s (E.Ω.toN m))
           | false =>.bad
         | .val (.slice none 0 0),.int _ n,.int _ m=>match Nat.beq te.size 1 with
           | true =>.newp (fun _=>0<=n/\n=m/\te.bytes*m.toNat<=140737488355328/\m<=140737488355328) (.lsr [] (E.Ω.hide _ fun _=>List.replicate m.toNat [])) fun id =>.sl id 1 (.l 0) (.s (E.Ω.toN n)) (.s (E.Ω.toN m))
           | false =>.bad
         | _,_,_ =>.bad
       | none =>.bad
     | _ =>.bad
   | none =>.bad
 | .slice t x lo hi mx=>match mx.isSome && hi.isNone with
   | true =>.bad
   | false=>qb6 E h t (evl E ts x) (lo.map (evl E ts)) (hi.map (evl E ts)) (mx.map (evl E ts))
 | .fieldAddr t x f=>match E.T t with
   | some ti=>match ti.d with
     | .st fs=>match qbD fs f with
       | some (o,ft)=>match (E.T ft).isSome with
         | true=>match evl E ts x with
           | .ptr id off =>.set (.ptr id (off.add E.Ω (.l o)))
           | .rop c off=>match qbA c with
             | true =>.set (.rop c (off.add E.Ω (.l o)))
             | false =>.bad
           | .roq cols n i f =>.set (.roq cols n i (Nat.add f o))
           | _ =>.bad
         | false =>.bad
       | none =>.bad
     | _ =>.bad
   | none =>.bad
 | .field t x f=>match E.T t with
   | some ti=>match ti.d with
     | .st fs=>match qbD fs f with
       | some (o,ft)=>match E.T ft with
         | some tf=>match (evl E ts x).isAgg && qaA o tf.size (evl E ts x)with
           | true =>.set (qL E o tf.size tf.agg (evl E ts x))
           | false =>.bad
         | none =>.bad
       | none =>.bad
     | _ =>.bad
   | none =>.bad
 | .indexAddr t x ix=>qb5 E t (evl E ts x) (evl E ts ix)
 | .index t x ix=>match E.T t with
   | some ti=>match ti.d with
     | .arr n e=>match E.T e,idx E (.l n) (evl E ts ix)with
       | some te,some (p,i)=>match i.mulc E.Ω te.size with
         | .l o=>match (evl E ts x).isAgg && qaA o te.size (evl E ts x)with
           | true=>qag p (qL E o te.size te.agg (evl E ts x))
           | false =>.bad
         | .s o=>match evl E ts x,te.agg with
           | .row k m xs,false=>match Nat.beq m n with
             | true=>qag p (.int k (E.Ω.at' xs o))
             | false =>.bad
           | _,_ =>.bad
       | _,_ =>.bad
     | .str=>match evl E ts x with
       | .val (.string s)=>match idx E (.l s.size) (evl E ts ix)with
         | some (p,i)=>qag p (.int .u8 (E.Ω.at' (strB s) i.v))
         | none =>.bad
       | _ =>.bad
     | _ =>.bad
   | none =>.bad
 | .extract x i=>match evl E ts x with
   | .tup l=>match Nat.blt i l.length with
     | true =>.set (getT l i)
     | false =>.bad
   | _ =>.bad
 | .buildSlice t len parts=>match E.T t with
   | some ti=>match ti.d with
     | .slice e=>match E.T e with
       | some te=>match Nat.beq parts.size len && (qev 0 parts.toList && Nat.ble (len*te.size) 16777216)with
         | true=>match te.zero with
           | .lit k _=>match Nat.beq te.size 1,qcy k (parts.toList.map fun p=>evl E ts p.2)with
             | true,some xs =>.new (.row k len xs) fun id =>.sl id 1 (.l 0) (.l len) (.l len)
             | _,_ =>.bad
           | .row k n _=>match Nat.beq te.size n,qbt E k n (parts.toList.map fun p=>evl E ts p.2)with
             | true,some xs =>.new (.row k (len*n) xs) fun id =>.sl id n (.l 0) (.l len) (.l len)
             | _,_ =>.bad
           | .agg z=>match qbt E (qgW z) te.size (parts.toList.map fun p=>evl E ts p.2)with
             | some xs =>.new (.row (qgW z) (len*te.size) xs) fun id =>.sl id te.size (.l 0) (.l len) (.l len)
             | none=>match qex te.size (parts.toList.map fun p=>evl E ts p.2)with
               | true =>.new (.agg (parts.toList.map fun p=>evl E ts p.2)) fun id =>.sl id te.size (.l 0) (.l len) (.l len)
               | false =>.bad
           | _=>match Nat.beq te.size 1 && qew (parts.toList.map fun p=>evl E ts p.2)with
             | true =>.new (.lst (parts.toList.map fun p=>evl E ts p.2)) fun id =>.sl id 1 (.l 0) (.l len) (.l len)
             | false =>.bad
         | false =>.bad
       | none =>.bad
     | _ =>.bad
   | none =>.bad
 | .call c=>match c.callee with
   | .builtin b=>match b,c.args.toList,c.argTypes.toList with
     | .len,[x],t :: _=>lenS E t (evl E ts x)
     | .min,[x,y],_=>mm E false (evl E ts x) (evl E ts y)
     | .max,[x,y],_=>mm E true (evl E ts x) (evl E ts y)
     | .append,[x,y],t :: u :: _=>match E.T t,E.T u with
       | some ti,some tu=>match ti.d,qey tu with
         | .slice e,true=>match E.T e with
           | some te=>match Nat.blt 0 te.bytes with
             | true =>.app te.size te.bytes (evl E ts x) (evl E ts y)
             | false =>.bad
           | none =>.bad
         | .slice e,false=>match tu.d,evl E ts x,E.T e with
           | .int _,.val (.slice none 0 0),some te=>match evl E ts y with
             | .int .i64 n=>match Nat.beq te.size 1,te.zero with
               | true,.lit k z=>match decide (z=0)with
                 | true =>.mkb (fun _=>0<n/\te.bytes*n.toNat<=140737488355328/\n<=140737488355328) (.seq k (E.Ω.zer (E.Ω.toN n))) (.s (E.Ω.toN n))
                 | false =>.bad
               | true,.val (.slice none 0 0) =>.mkb (fun _=>0<n/\te.bytes*n.toNat<=140737488355328/\n<=140737488355328) (.lsr [] (E.Ω.hide _ fun _=>List.replicate n.toNat [])) (.s (E.Ω.toN n))
               | _,_ =>.bad
             | _ =>.bad
           | _,_,_ =>.bad
         | _,_ =>.bad
       | _,_ =>.bad
     | .cap,[x],t :: _=>capS E t (evl E ts x)
     | .copy,[x,y],t :: _=>match E.T t with
       | some ti=>match ti.d with
         | .slice e=>match E.T e with
           | some te=>match Nat.beq te.size 1,evl E ts x,qaT E h (evl E ts y)with
             | true,.sl id 1 off len _,some (k',ys)=>match look h id with
               | .seq k xs=>match keq k k' with
                 | true =>.cpy (fun _=>bPre h (evl E ts y)/\0<len.v/\off.v+len.v<=xs.length) (.int .i64 (E.Ω.ofN (Nat.min ys.length len.v))) id (.seq k (E.Ω.put xs off.v (E.Ω.sub ys 0 len.v)))
                 | false =>.bad
               | .row k n xs=>match keq k k' with
                 | true =>.cpy (fun _=>bPre h (evl E ts y)/\0<len.v/\off.v+len.v<=n) (.int .i64 (E.Ω.ofN (Nat.min ys.length len.v))) id (.row k n (E.Ω.put xs off.v (E.Ω.sub ys 0 len.v)))
                 | false =>.bad
               | _ =>.bad
             | _,_,_ =>.bad
           | none =>.bad
         | _ =>.bad
       | none =>.bad
     | _,_,_ =>.bad
   | .value f=>match evl E ts f with
     | .fn g first caps =>
       let args:=first++(c.args.toList.map (evl E ts)++caps)
       match E.X g with
       | some k=>extS E k args
       | none=>match E.G g with
         | some s =>.call (qdf h args) (s (args.map (qO E h)))
         | none=>match E.into g with
           | true =>.into g args
           | false =>.bad
     | .yld id =>.yld id (c.args.toList.map (evl E ts))
     | _ =>.bad
   | _ =>.bad
 | _ =>.bad
def place (i:Nat):SVal->SVal × List (Nat × SVal)
 | .fr k xs cap=>(.sl i 1 (.l 0) (.s (E.Ω.len xs)) (.s cap),[(i,.seq k xs)])
 | .fra q cap=>(.sl i q.es (.l 0) (.s (lenO E q)) (.s cap),[(i,.sab q)])
 | .tup l=>let r:=placeL i l
   (.tup r.1,r.2)
 | .frp l=>let r:=placeL (i+1) l
   (.ptr i (.l 0),(i,.agg r.1) :: r.2)
 | v=>(v,[])
where placeL (i:Nat):List SVal->List SVal × List (Nat × SVal)
 | []=>([],[])
 | .fr k xs cap :: l=>let r:=placeL (i+1) l
   (.sl i 1 (.l 0) (.s (E.Ω.len xs)) (.s cap) :: r.1,(i,.seq k xs) :: r.2)
 | .fra q cap :: l=>let r:=placeL (i+1) l
   (.sl i q.es (.l 0) (.s (lenO E q)) (.s cap) :: r.1,(i,.sab q) :: r.2)
 | v :: l=>let r:=placeL i l
   (v :: r.1,r.2)
def qb7 (h:Heap):List SVal->Option (List SVal × List Nat)
 | []=>some ([],[])
 | s :: l=>match qb7 h l with
   | none=>none
   | some (m,ids)=>match s with
     | .sl id 1 off len cap=>match look h id with
       | .seq k xs=>some (.fr k (E.Ω.sub xs off.v len.v) cap.v :: m,id :: ids)
       | _=>none
     | .val (.slice none 0 0)=>some (.fr .u8 [] 0 :: m,ids)
     | .lit k n=>some (.int k n :: m,ids)
     | .int k n=>some (.int k n :: m,ids)
     | .bl b=>some (.bs b :: m,ids)
     | .bs b=>some (.bs b :: m,ids)
     | .row k n xs=>some (.row k n xs :: m,ids)
     | .ab p=>some (.ab p :: m,ids)
     | _=>none
def qcz (h:Heap):List SVal->Prop
 | []=>True
 | .sl id _ off len _ :: l=>(match look h id with
   | .seq _ xs=>off.v+len.v<=xs.length
   | _=>True)/\qcz h l
 | _ :: l=>qcz h l
def memN (i:Nat):List Nat->Bool
 | []=>false
 | j :: l=>match Nat.beq i j with
   | true=>true
   | false=>memN i l
def uniq:List Nat->Bool
 | []=>true
 | i :: l=>match memN i l with
   | true=>false
   | false=>uniq l
def qa7 (ids:List Nat):List SVal->Bool
 | []=>true
 | s :: l=>match s with
   | .sl id _ _ _ _=>match memN id ids with
     | true=>false
     | false=>qa7 ids l
   | .ptr .. => false
   | .tup _=>false
   | .agg _=>false
   | .fn .. => false
   | .rop .. => false
   | _=>qa7 ids l
def qbE:List Nat->Heap->Heap
 | [],h=>h
 | i :: l,h=>qbE l (delH h i)
def qbu (l:List SVal):SVal :=
 match l with
 | [v]=>v
 | l =>.tup l
def qar:Nat->List SVal->List SVal
 | 0,_=>[]
 | _,[]=>[]
 | n+1,s :: l=>s :: qar n l
def qa8:Nat->List SVal->List SVal
 | 0,l=>l
 | _,[]=>[]
 | n+1,_ :: l=>qa8 n l
inductive It where
 | code (c:Code)
 | ops (dr:Bool) (base i:Nat) (all:List Oper) (l:List Oper)
 | blk (id:Nat)
 | again (c:Code)
 | back (J:List SVal->Heap->Nat->Prop)
 | frame (ts:List SVal) (dst:Option Nat) (res:List ResultVar) (g:Bool)
 | scp (c:Code)
 | rng (id:Nat) (ts:List SVal) (ps:List Nat) (as body:Code)
 | rnd (id:Nat) (ts:List SVal) (dst:Option Nat)
 | bgn (id:Nat)
 | sback (l:Nat) (J:List SVal->Heap->Nat->Prop)
def resV (ts:List SVal) (h:Heap):ResultVar->SVal
 | .tmp t=>getT ts t
 | .cell a t=>match E.T t with
   | some ti=>match getT ts a with
     | .ptr id (.l o)=>qL E o ti.size ti.agg (look h id)
     | _ =>.junk
   | none =>.junk
def resS (ts:List SVal) (h:Heap) (rs:List ResultVar):SVal :=
 match rs with
 | [r]=>resV E ts h r
 | rs =>.tup (rs.map (resV E ts h))
def resB (ts:List SVal) (h:Heap):List ResultVar->Bool
 | []=>true
 | .tmp _ :: r=>resB ts h r
 | .cell a t :: r=>match E.T t with
   | some ti=>match getT ts a with
     | .ptr id (.l o)=>qaA o ti.size (look h id) && resB ts h r
     | _=>false
   | none=>false
def qaP (id:Nat):List It->Option (List It)
 | []=>none
 | .blk j :: k=>match Nat.beq j id with
   | true=>some k
   | false=>qaP id k
 | .frame .. :: _=>none
 | .rng .. :: _=>none
 | .rnd .. :: _=>none
 | .bgn _ :: _=>none
 | _ :: k=>qaP id k
def qaH (l:Nat):List It->Option (List It)
 | []=>none
 | .scp c :: k=>match findLabel c l with
   | some r=>some (.code r :: .scp c :: k)
   | none=>qaH l k
 | .frame .. :: _=>none
 | .rng .. :: _=>none
 | .rnd .. :: _=>none
 | .bgn _ :: _=>none
 | .sback l' _ :: k=>match Nat.beq l l' with
   | true=>none
   | false=>none
 | _ :: k=>qaH l k
def popJ (l:Nat):List It->Option (List SVal->Heap->Nat->Prop)
 | []=>none
 | .sback l' J :: k=>match Nat.beq l l' with
   | true=>some J
   | false=>none
 | .scp c :: k=>match findLabel c l with
   | some _=>none
   | none=>popJ l k
 | .frame .. :: _=>none
 | .rng .. :: _=>none
 | .rnd .. :: _=>none
 | .bgn _ :: _=>none
 | _ :: k=>popJ l k
def qbF (l:Nat):Code->Bool
 | .goto l'=>Nat.beq l l'
 | .seq a b=>qbF l a || qbF l b
 | .cond _ a b=>qbF l a || qbF l b
 | .block _ c=>qbF l c
 | .loop c=>qbF l c
 | .scope c=>qbF l c
 | _=>false
def qcA:List It->Option (List SVal × Option Nat × List ResultVar × Bool × List It)
 | []=>none
 | .frame ts d rs g :: k=>some (ts,d,rs,g,k)
 | .rng _ ts _ _ _ :: k=>some (ts,none,[],false,k)
 | .rnd .. :: _=>none
 | _ :: k=>qcA k
def qgX:List It->Bool
 | []=>false
 | .frame .. :: _=>false
 | .rng .. :: _=>false
 | .rnd .. :: _=>true
 | .bgn _ :: _=>true
 | _ :: k=>qgX k
def qcB:List It->Bool
 | []=>true
 | .frame .. :: _=>false
 | .rng .. :: _=>false
 | .rnd .. :: _=>false
 | .bgn _ :: _=>false
 | _ :: k=>qcB k
def toRng:List It->Option (Nat × List SVal × List Nat × Code × Code)
 | []=>none
 | .rng id ts ps as body :: _=>some (id,ts,ps,as,body)
 | .frame .. :: _=>none
 | .rnd .. :: _=>none
 | .bgn _ :: _=>none
 | _ :: k=>toRng k
def qbG (ts:List SVal):List Nat->List SVal->Option (List SVal)
 | [],[]=>some ts
 | t :: ps,v :: vs=>qbG (setT ts t v) ps vs
 | _,_=>none
def qP (all:List Oper) (ts:List SVal) (o:Oper):Option Bool :=
 match o.guard with
 | none=>some true
 | some (j,want)=>match all[j]? with
   | some oj=>match oj.dst with
     | some d=>match getT ts d with
       | .bl b=>some (b == want)
       | .tup []=>some false
       | _=>none
     | none=>none
   | none=>none
def appS (h:Heap) (es:Nat):SVal->Option (Option Nat × Option IntKind × List Int × SN)
 | .val (.slice none 0 0)=>some (none,none,[],.l 0)
 | .sl id es' off len _=>match Nat.beq es es',look h id with
   | true,.seq k xs=>some (some id,some k,E.Ω.sub xs off.v (len.mulc E.Ω es).v,len)
   | true,.lck k xs=>some (some id,some k,E.Ω.sub xs off.v (len.mulc E.Ω es).v,len)
   | true,.row k n xs=>match off,Nat.beq (len.mulc E.Ω es).v n with
     | .l 0,true=>some (some id,some k,xs,len)
     | _,_=>some (some id,some k,E.Ω.sub xs off.v (len.mulc E.Ω es).v,len)
   | _,_=>none
 | .roi k xs=>match es with
   | 1=>some (none,some k,xs,.s (E.Ω.len xs))
   | _=>none
 | _=>none
def appA (h:Heap) (es:Nat):SVal->Option (Option Nat × PayL × SN)
 | .val (.slice none 0 0)=>match Nat.beq es 8,Nat.beq es 24 with
   | true,_=>some (none,.fe [],.l 0)
   | _,true=>some (none,.pt [],.l 0)
   | _,_=>none
 | .sl id es' (.l 0) len _=>match Nat.beq es es',look h id with
   | true,.sab q=>match Nat.beq es q.es with
     | true=>some (some id,q,len)
     | false=>none
   | true,.agg l=>match qcw es l with
     | some q=>some (some id,q,len)
     | none=>none
   | true,.row _ 0 _=>match Nat.beq es 8,Nat.beq es 24 with
     | true,_=>some (some id,.fe [],len)
     | _,true=>some (some id,.pt [],len)
     | _,_=>none
   | _,_=>none
 | _=>none
def PayL.cat (Ω:Om):PayL->PayL->Option PayL
 | .fe a,.fe b=>some (.fe (Ω.hide _ fun _=>a++b))
 | .pt a,.pt b=>some (.pt (Ω.hide _ fun _=>a++b))
 | _,_=>none
def appL (h:Heap):SVal->Option (Option Nat × List SVal × Option (List (List Int)) × SN)
 | .val (.slice none 0 0)=>some (none,[],none,.l 0)
 | .rol .u8 xss=>some (none,[],some xss,.s (E.Ω.len2 xss))
 | .sl id 1 (.l 0) len _=>match look h id with
   | .lst l=>some (some id,l,none,len)
   | .lsr l xss=>match len with
     | .l 0=>some (some id,[],none,.l 0)
     | len=>some (some id,l,some xss,len)
   | _=>none
 | _=>none
def lenL (l:List SVal) (t:Option (List (List Int))):Nat :=
 match t with
 | none=>l.length
 | some xss=>l.length+xss.length
def catL (Ω:Om) (a:List SVal) (s:Option (List (List Int))) (b:List SVal) (t:Option (List (List Int))):Option SVal :=
 match s with
 | none=>match t with
   | none=>match a++b with
     | []=>none
     | l=>some (.lst l)
   | some yss=>some (.lsr (a++b) yss)
 | some xss=>match qbB b with
   | none=>none
   | some zss=>match t with
     | none=>some (.lsr a (Ω.hide _ fun _=>xss++zss))
     | some yss=>some (.lsr a (Ω.hide _ fun _=>xss++(zss++yss)))
def qbh (h:Heap):SVal->Bool
 | .roi .. => false
 | .rol .. => false
 | .sl id _ _ _ _=>match look h id with
   | .lck .. => false
   | _=>true
 | _=>true
def qdg (h:Heap) (s x:SVal):Bool :=
 match qbh h s with
 | true=>true
 | false=>match s with
   | .sl id _ _ (.l n) (.l m)=>match look h id with
     | .lck .. => match x with
       | .sl _ _ _ (.l k) _=>Nat.beq n m && Nat.blt 0 k
       | _=>false
     | _=>false
   | _=>false
def appK:Option IntKind->Option IntKind->Option IntKind
 | some k,some k'=>match keq k k' with
   | true=>some k
   | false=>none
 | some k,none=>some k
 | none,k=>k
def qas (i:Nat) (l:List Oper):Bool:=l.any fun o=>match o.guard with|some (j,_)=>Nat.beq j i|none=>false
def appC (Ω:Om) (id:Option Nat) (xs ys:List Int):List Int :=
 match id with
 | some _=>Ω.cat xs ys
 | none=>ys
def delO (id:Option Nat) (h:Heap):Heap :=
 match id with
 | some id=>delH h id
 | none=>h
def aPre (h:Heap) (es:Nat):SVal->Prop
 | .sl id _ off len _=>match look h id with
   | .seq _ xs=>off.v+len.v*es<=xs.length
   | .lck _ xs=>off.v+len.v*es<=xs.length
   | .row _ n _=>off.v+len.v*es<=n
   | _=>True
 | _=>True
end
end Go.Sx
end
section
namespace Go.Sx
def Om.real:Om where
 nadd:=fun a b=>a+b
 nsub:=fun a b=>a-b
 nmul:=fun a b=>a*b
 toN:=fun i=>i.toNat
 ofN:=fun n=>(n:Int)
 bin:=binL
 cmp:=cmpL
 cv:=fun k n=>k.wrap n
 un:=unL
 bnot:=fun b => !b
 bite:=fun c a b=>if c then a else b
 beq:=fun xs ys=>xs == ys
 at':=fun xs i=>xs.getD i 0
 at2:=fun xs i=>xs.getD i []
 sub:=fun xs o n=>(xs.drop o).take n
 sub2:=fun xs o n=>(xs.drop o).take n
 put:=fun xs o ys=>xs.take o++ys++xs.drop (o+ys.length)
 set:=fun xs i x=>xs.set i x
 cat:=fun xs ys=>xs++ys
 zer:=fun n=>List.replicate n 0
 len:=fun xs=>xs.length
 len2:=fun xs=>xs.length
 imin:=fun a b=>min a b
 imax:=fun a b=>max a b
 adds:=fun a b c=>(a+b+c) % 18446744073709551616
 addc:=fun a b c=>(a+b+c) / 18446744073709551616
 subs:=fun a b c=>(a-b-c) % 18446744073709551616
 subc:=fun a b c=>if a<b+c then 1 else 0
 hide:=fun _ a=>a ()
structure Pos where
 b:Nat
 o:Nat
 room:Nat
 g:Bool
abbrev Rho:=Nat->Pos
structure Snap where
 f:Nat->Option Obj
 w0:World
 defs:List Deferred:=[]
instance:CoeFun Snap fun _=>Nat->Option Obj:=⟨Snap.f⟩
def qu (H:Snap) (b o:Nat):Option Value :=
 match H b with
 | some (.cells c _ _)=>c[o]?
 | _=>none
def RoI (H:Snap) (k:IntKind) (xs:List Int) (v:Value):Prop :=
 ∃ a c,v = .slice a xs.length c/\xs.length<=c /\ ∀ (j:Nat) x,xs[j]?=some x -> ∃ b o,a=some ⟨b,o,none⟩/\qu H b (o+j)=some (.int k x)
def Col.cell (H:Snap) (j:Nat) (u:Value):Col->Prop
 | .ints k xs =>∃ x,xs[j]?=some x/\u = .int k x
 | .byts xss =>∃ xs,xss[j]?=some xs/\RoI H .u8 xs u
def RoE (H:Snap) (cols:List Col) (n b o:Nat):Prop :=
 ∀ j,j<n -> ∀ (f:Nat) col,qda cols f=some col -> ∃ u,qu H b (o+j*colN cols+f)=some u/\col.cell H j u
def qaI:Value->Prop
 | .agg _=>False
 | .tuple _=>False
 | _=>True
section
variable (ρ:Rho) (H:Snap)
mutual
def Rep:SVal->List Value->Prop
 | .junk,_=>False
 | .lit k n,vs=>vs=[.int k n]
 | .int k n,vs=>vs=[.int k n]
 | .bl b,vs=>vs=[.bool b]
 | .bs b,vs=>vs=[.bool b]
 | .val u,vs=>vs=[u]/\qaI u
 | .row k n xs,vs=>xs.length=n/\vs=xs.map (Value.int k)
 | .seq k xs,vs=>vs=xs.map (Value.int k)
 | .lck k xs,vs=>vs=xs.map (Value.int k)
 | .sab q,vs =>∃ ys,vs=ys.map (Value.int .u64)/\q.ok ys
 | .agg l,vs=>RepC l vs
 | .lst l,vs=>RepV l vs /\ ∀ v ∈ vs,qaI v
 | .lsr l xss,vs =>∃ us ws,vs=us++ws/\RepV l us/\(∀ v ∈ us,qaI v)/\ws.length=xss.length /\ ∀ (j:Nat) xs,xss[j]?=some xs -> ∃ u,ws[j]?=some u/\RoI H .u8 xs u
 | .ptr id off,vs=>vs=[.pointer (some ⟨(ρ id).b,(ρ id).o+off.v,none⟩)]
 | .sl id es off len cap,vs =>∃ ad,vs=[.slice ad len.v cap.v]/\len.v<=cap.v/\off.v+cap.v*es<=(ρ id).room/\((ρ id).g=true->ad=none/\cap.v=0) /\
  ((ρ id).g=false -> ∃ o',ad=some ⟨(ρ id).b,o',none⟩/\(cap.v ≠ 0->o'=(ρ id).o+off.v))
 | .roi k xs,vs =>∃ v,vs=[v]/\RoI H k xs v
 | .rol k xss,vs =>∃ a c,vs=[.slice a xss.length c]/\xss.length<=c /\ ∀ (j:Nat) xs,xss[j]?=some xs -> ∃ b o u,a=some ⟨b,o,none⟩/\qu H b (o+j)=some u/\RoI H k xs u
 | .ror k es xss,vs =>∃ a c,vs=[.slice a xss.length c]/\xss.length<=c /\ ∀ (j:Nat) xs,xss[j]?=some xs->xs.length=es /\ ∃ b o,a=some ⟨b,o,none⟩ /\ ∀ (i:Nat) x,xs[i]?=some x->qu H b (o+j*es+i)=some (.int k x)
 | .rop c off,vs=>match c with
   | .rol k xss =>∃ b o,vs=[.pointer (some ⟨b,o+off.v,none⟩)] /\ ∀ (j:Nat) xs,xss[j]?=some xs -> ∃ u,qu H b (o+j)=some u/\RoI H k xs u
   | .ror k es xss =>∃ b o,vs=[.pointer (some ⟨b,o+off.v*es,none⟩)] /\ ∀ (j:Nat) xs,xss[j]?=some xs->xs.length=es /\ ∀ (i:Nat) x,xs[i]?=some x->qu H b (o+j*es+i)=some (.int k x)
   | c =>∃ b o ws,vs=[.pointer (some ⟨b,o+off.v,none⟩)]/\Rep c ws /\ ∀ (j:Nat) v,ws[j]?=some v->qu H b (o+j)=some v
 | .tup l,vs =>∃ ws,vs=[.tuple ws.toArray]/\RepV l ws
 | .fn f first caps,vs =>∃ fs cs,vs=[.func (.func f) fs.toArray cs.toArray]/\RepV first fs/\RepV caps cs
 | .fr ..,_=>False
 | .fra ..,_=>False
 | .frp _,_=>False
 | .yld id,vs=>vs=[.func (.yield (ρ id).b) #[] #[]]
 | .ab p,vs =>∃ xs,vs=xs.map (Value.int p.k)/\p.ok xs
 | .roa q,vs =>∃ a c ys,vs=[.slice a q.len c]/\q.len<=c/\q.ok ys /\ ∀ (j:Nat) y,ys[j]?=some y -> ∃ b o,a=some ⟨b,o,none⟩/\qu H b (o+j)=some (.int .u64 y)
 | .roaq q i,vs =>∃ b o ys,vs=[.pointer (some ⟨b,o+i.v*q.es,none⟩)]/\q.ok ys /\ ∀ (j:Nat) y,ys[j]?=some y->qu H b (o+j)=some (.int .u64 y)
 | .roe cols n,vs =>∃ a c,vs=[.slice a n c]/\n<=c/\(0<n -> ∃ b o,a=some ⟨b,o,none⟩/\RoE H cols n b o)
 | .roq cols n i f,vs =>∃ b o,vs=[.pointer (some ⟨b,o+i.v*colN cols+f,none⟩)]/\RoE H cols n b o
def RepC:List SVal->List Value->Prop
 | [],vs=>vs=[]
 | s :: l,vs =>∃ us ws,vs=us++ws/\Rep s us/\RepC l ws
def RepV:List SVal->List Value->Prop
 | [],vs=>vs=[]
 | s :: l,vs =>∃ v ws,vs=v :: ws/\(match s with
  | .junk=>True
  | .row k n xs=>xs.length=n/\v = .agg (xs.map (Value.int k)).toArray
  | .agg l =>∃ us,RepC l us/\v = .agg us.toArray
  | .ab p =>∃ xs,p.ok xs/\v = .agg (xs.map (Value.int p.k)).toArray
  | s=>Rep s [v])/\RepV l ws
end
def Den (s:SVal) (v:Value):Prop :=
 match s with
 | .junk=>True
 | .row k n xs=>xs.length=n/\v = .agg (xs.map (Value.int k)).toArray
 | .agg l =>∃ us,RepC ρ H l us/\v = .agg us.toArray
 | .ab p =>∃ xs,p.ok xs/\v = .agg (xs.map (Value.int p.k)).toArray
 | s=>Rep ρ H s [v]
end
def qdh (l:List SVal) (p:Pay):Prop :=∀ ρ H us,RepC ρ H l us -> ∃ xs,us=xs.map (Value.int p.k)/\p.ok xs
def qdi (l:List SVal) (k:IntKind) (n:Nat) (xs:List Int):Prop :=∀ ρ H us,RepC ρ H l us->us=xs.map (Value.int k)/\xs.length=n
abbrev Top:=Nat->Prop
def noId:Top:=fun _=>False
mutual
def IdsLt (t:Top):SVal->Prop
 | .agg l=>IdsLtL t l
 | .lst l=>IdsLtL t l
 | .lsr l _=>IdsLtL t l
 | .tup l=>IdsLtL t l
 | .frp l=>IdsLtL t l
 | .ptr id _=>t id
 | .yld id=>t id
 | .sl id _ _ _ _=>t id
 | .rop c _=>IdsLt t c
 | .fn _ a b=>IdsLtL t a/\IdsLtL t b
 | _=>True
def IdsLtL (t:Top):List SVal->Prop
 | []=>True
 | s :: l=>IdsLt t s/\IdsLtL t l
end
theorem RepV_cons {ρ:Rho} {H:Snap} {s:SVal} {l:List SVal} {vs:List Value}:RepV ρ H (s :: l) vs ↔ ∃ v ws,vs=v :: ws/\Den ρ H s v/\RepV ρ H l ws:=by
 cases s<;>simp[RepV,Den]
theorem RepC_cons {ρ:Rho} {H:Snap} {s:SVal} {l:List SVal} {vs:List Value}:RepC ρ H (s :: l) vs ↔ ∃ us ws,vs=us++ws/\Rep ρ H s us/\RepC ρ H l ws:=by
 simp[RepC]
mutual
theorem Rep.extR {ρ ρ':Rho} {H H':Snap} {t:Top} (hρ : ∀ i,t i->ρ' i=ρ i) (hro : ∀ b o v,qu H b o=some v->qu H' b o=some v) :
  ∀ (s:SVal) {vs:List Value},IdsLt t s->Rep ρ H s vs->Rep ρ' H' s vs
 | s,vs,hi,h=>by
   have hroi : ∀ k xs v,RoI H k xs v->RoI H' k xs v:=by
     intro k xs v ⟨a,c,hv,hc,hx⟩
     refine⟨a,c,hv,hc,fun j x hj => ?_⟩
     obtain⟨b,o,ha,hr⟩:=hx j x hj
     exact⟨b,o,ha,hro _ _ _ hr⟩
   cases s with
   | junk=>exact h
   | lit k n=>simpa[Rep]using h
   | int k n=>simpa[Rep]using h
   | bl b=>simpa[Rep]using h
   | bs b=>simpa[Rep]using h
   | val v=>simpa[Rep]using h
   | row k n xs=>simpa[Rep]using h
   | seq k xs=>simpa[Rep]using h
   | sab q=>simpa only[Rep]using h
   | lck k xs=>simpa[Rep]using h
   | agg l=>simp only[Rep]at h ⊢;simp only[IdsLt]at hi;exact RepC.extR hρ hro l hi h
   | lst l=>simp only[Rep]at h ⊢;simp only[IdsLt]at hi;exact⟨RepV.extR hρ hro l hi h.1,h.2⟩
   | lsr l xss =>
     simp only[Rep]at h ⊢;simp only[IdsLt]at hi
     obtain⟨us,ws,e,h1,h2,h3,h4⟩:=h
     exact⟨us,ws,e,RepV.extR hρ hro l hi h1,h2,h3,fun j xs hj=>(h4 j xs hj).imp fun u hu=>⟨hu.1,hroi _ _ _ hu.2⟩⟩
   | ptr id off=>simp only[Rep,IdsLt]at h hi ⊢;rw[hρ _ hi];exact h
   | sl id es off len cap=>simp only[Rep,IdsLt]at h hi ⊢;rw[hρ _ hi];exact h
   | roi k xs=>simp only[Rep]at h ⊢;obtain⟨v,e,h⟩:=h;exact⟨v,e,hroi _ _ _ h⟩
   | rol k xss =>
     simp only[Rep]at h ⊢
     obtain⟨a,c,e,hc,h⟩:=h
     refine⟨a,c,e,hc,fun j xs hj => ?_⟩
     obtain⟨b,o,u,ha,hr,hu⟩:=h j xs hj
     exact⟨b,o,u,ha,hro _ _ _ hr,hroi _ _ _ hu⟩
   | ror k es xss =>
     simp only[Rep]at h ⊢
     obtain⟨a,c,e,hc,h⟩:=h
     refine⟨a,c,e,hc,fun j xs hj => ?_⟩
     obtain⟨hl,b,o,ha,hr⟩:=h j xs hj
     exact⟨hl,b,o,ha,fun i x hx=>hro _ _ _ (hr i x hx)⟩
   | rop c off =>
     simp only[IdsLt]at hi
     have ih:=fun {vs}=>Rep.extR hρ hro c (vs:=vs) hi
     cases c<;>simp only[Rep]at h ⊢ <;> first
       | (obtain⟨b,o,ws,e,hw,hr⟩:=h;exact hw.elim)
       | (obtain⟨b,o,ws,e,hw,hr⟩:=h
          exact⟨b,o,ws,e,by simpa only[Rep]using ih (by simpa only[Rep]using hw),fun j v hj=>hro _ _ _ (hr j v hj)⟩)
       | (obtain⟨b,o,e,hr⟩:=h
          refine⟨b,o,e,fun j xs hj => ?_⟩
          obtain⟨u,h1,h2⟩:=hr j xs hj
          exact⟨u,hro _ _ _ h1,hroi _ _ _ h2⟩)
       | (obtain⟨b,o,e,hr⟩:=h
          refine⟨b,o,e,fun j xs hj => ?_⟩
          obtain⟨h1,h2⟩:=hr j xs hj
          exact⟨h1,fun i x hx=>hro _ _ _ (h2 i x hx)⟩)
   | tup l=>simp only[Rep]at h ⊢;simp only[IdsLt]at hi;obtain⟨ws,e,h⟩:=h;exact⟨ws,e,RepV.extR hρ hro l hi h⟩
   | fn f a b =>
     simp only[Rep]at h ⊢;simp only[IdsLt]at hi
     obtain⟨fs,cs,e,h1,h2⟩:=h
     exact⟨fs,cs,e,RepV.extR hρ hro a hi.1 h1,RepV.extR hρ hro b hi.2 h2⟩
   | fr k xs cap=>exact h
   | fra q cap=>exact h
   | frp l=>exact h
   | yld id=>simp only[Rep,IdsLt]at h hi ⊢;rw[hρ _ hi];exact h
   | ab p=>simpa only[Rep]using h
   | roa q =>
     simp only[Rep]at h ⊢
     obtain⟨a,c,ys,e,hc,hq,h⟩:=h
     refine⟨a,c,ys,e,hc,hq,fun j y hj => ?_⟩
     obtain⟨b,o,ha,hr⟩:=h j y hj
     exact⟨b,o,ha,hro _ _ _ hr⟩
   | roaq q i =>
     simp only[Rep]at h ⊢
     obtain⟨b,o,ys,e,hq,h⟩:=h
     exact⟨b,o,ys,e,hq,fun j y hj=>hro _ _ _ (h j y hj)⟩
   | roe cols n =>
     simp only[Rep]at h ⊢
     obtain⟨a,c,e,hc,h⟩:=h
     refine⟨a,c,e,hc,fun hn => ?_⟩
     obtain⟨b,o,ha,hr⟩:=h hn
     refine⟨b,o,ha,fun j hj f col hf => ?_⟩
     obtain⟨u,h1,h2⟩:=hr j hj f col hf
     exact⟨u,hro _ _ _ h1,by cases col<;>simp only[Col.cell]at h2 ⊢ <;> first|exact h2|(obtain⟨xs,h3,h4⟩:=h2;exact⟨xs,h3,hroi _ _ _ h4⟩)⟩
   | roq cols n i f =>
     simp only[Rep]at h ⊢
     obtain⟨b,o,e,hr⟩:=h
     refine⟨b,o,e,fun j hj f col hf => ?_⟩
     obtain⟨u,h1,h2⟩:=hr j hj f col hf
     exact⟨u,hro _ _ _ h1,by cases col<;>simp only[Col.cell]at h2 ⊢ <;> first|exact h2|(obtain⟨xs,h3,h4⟩:=h2;exact⟨xs,h3,hroi _ _ _ h4⟩)⟩
theorem RepC.extR {ρ ρ':Rho} {H H':Snap} {t:Top} (hρ : ∀ i,t i->ρ' i=ρ i) (hro : ∀ b o v,qu H b o=some v->qu H' b o=some v) :
  ∀ (l:List SVal) {vs:List Value},IdsLtL t l->RepC ρ H l vs->RepC ρ' H' l vs
 | [],vs,_,h=>h
 | s :: l,vs,hi,h=>by
   obtain⟨us,ws,e,h1,h2⟩:=RepC_cons.1 h
   exact RepC_cons.2 ⟨us,ws,e,Rep.extR hρ hro s hi.1 h1,RepC.extR hρ hro l hi.2 h2⟩
theorem RepV.extR {ρ ρ':Rho} {H H':Snap} {t:Top} (hρ : ∀ i,t i->ρ' i=ρ i) (hro : ∀ b o v,qu H b o=some v->qu H' b o=some v) :
  ∀ (l:List SVal) {vs:List Value},IdsLtL t l->RepV ρ H l vs->RepV ρ' H' l vs
 | [],vs,_,h=>h
 | s :: l,vs,hi,h=>by
   obtain⟨v,ws,e,h1,h2⟩:=RepV_cons.1 h
   refine RepV_cons.2 ⟨v,ws,e,?_,RepV.extR hρ hro l hi.2 h2⟩
   have ih:=fun {vs}=>Rep.extR hρ hro s (vs:=vs) hi.1
   clear h
   cases s<;>first
     | exact h1
     | exact ih h1
     | (obtain⟨us,h3,h4⟩:=h1;exact⟨us,by simpa only[Rep]using ih (by simpa only[Rep]using h3),h4⟩)
end
theorem Den.extR {ρ ρ':Rho} {H H':Snap} {t:Top} (hρ : ∀ i,t i->ρ' i=ρ i) (hro : ∀ b o v,qu H b o=some v->qu H' b o=some v) {s:SVal} {v:Value}
  (hi:IdsLt t s) (h:Den ρ H s v):Den ρ' H' s v:=by
 have:RepV ρ' H' [s] [v]:=RepV.extR hρ hro [s] ⟨hi,trivial⟩ (RepV_cons.2 ⟨v,[],rfl,h,rfl⟩)
 obtain⟨v',ws,e,h',_⟩:=RepV_cons.1 this
 cases e;exact h'
theorem Snap.ro {H H':Snap} (hH : ∀ b o,H b=some o->H' b=some o) (b o:Nat) (v:Value) (hv:qu H b o=some v):qu H' b o=some v:=by
 unfold qu at *
 cases hb:H b with
 | none=>simp[hb]at hv
 | some ob=>simp only[hb]at hv;simp only[hH b ob hb];exact hv
theorem Rep.ext {ρ ρ':Rho} {H H':Snap} {t:Top} (hρ : ∀ i,t i->ρ' i=ρ i) (hH : ∀ b o,H b=some o->H' b=some o)
 (s:SVal) {vs:List Value} (hi:IdsLt t s) (h:Rep ρ H s vs):Rep ρ' H' s vs:=Rep.extR hρ (Snap.ro hH) s hi h
theorem RepC.ext {ρ ρ':Rho} {H H':Snap} {t:Top} (hρ : ∀ i,t i->ρ' i=ρ i) (hH : ∀ b o,H b=some o->H' b=some o)
 (l:List SVal) {vs:List Value} (hi:IdsLtL t l) (h:RepC ρ H l vs):RepC ρ' H' l vs:=RepC.extR hρ (Snap.ro hH) l hi h
theorem RepV.ext {ρ ρ':Rho} {H H':Snap} {t:Top} (hρ : ∀ i,t i->ρ' i=ρ i) (hH : ∀ b o,H b=some o->H' b=some o)
 (l:List SVal) {vs:List Value} (hi:IdsLtL t l) (h:RepV ρ H l vs):RepV ρ' H' l vs:=RepV.extR hρ (Snap.ro hH) l hi h
theorem Den.ext {ρ ρ':Rho} {H H':Snap} {t:Top} (hρ : ∀ i,t i->ρ' i=ρ i) (hH : ∀ b o,H b=some o->H' b=some o) {s:SVal} {v:Value}
 (hi:IdsLt t s) (h:Den ρ H s v):Den ρ' H' s v:=Den.extR hρ (Snap.ro hH) hi h
end Go.Sx
end
section
namespace Go.Sx
theorem keq_iff {a b:IntKind}:keq a b=true ↔ a=b:=by
 cases a<;>cases b<;>simp[keq]
theorem qjd {c:SVal} {l:List SVal} (h:SVal.sz.szL (c :: l) ≠ 0):c.sz ≠ 0/\(l=[]\/SVal.sz.szL l ≠ 0)/\SVal.sz.szL (c :: l)=c.sz+SVal.sz.szL l:=by
 cases l with
 | nil=>simp only[SVal.sz.szL]at h ⊢;exact⟨h,.inl trivial,rfl⟩
 | cons d l =>
   have e:SVal.sz.szL (c :: d :: l)=(match c.sz,SVal.sz.szL (d :: l)with|0,_=>0|_,0=>0|a,b=>a+b):=rfl
   rw[e]at h ⊢
   generalize SVal.sz.szL (d :: l)=y at *
   generalize c.sz=x at *
   cases x<;>cases y<;>simp at h ⊢
mutual
theorem Rep.len {ρ:Rho} {H:Snap} : ∀ (c:SVal) {vs:List Value},Rep ρ H c vs->c.sz ≠ 0->vs.length=c.sz
 | c,vs,h,hz=>by
   cases c with
   | row k n xs=>simp only[Rep]at h;simp[SVal.sz,h.2,h.1]
   | agg l=>simp only[Rep]at h;simp only[SVal.sz]at hz ⊢;exact RepC.len l h hz
   | seq k xs=>simp[SVal.sz]at hz
   | sab q=>simp[SVal.sz]at hz
   | lck k xs=>simp[SVal.sz]at hz
   | lsr l xss=>simp[SVal.sz]at hz
   | lst l=>simp[SVal.sz]at hz
   | junk=>simp[SVal.sz]at hz
   | tup l=>simp[SVal.sz]at hz
   | fr k xs cap=>simp[SVal.sz]at hz
   | fra q cap=>simp[SVal.sz]at hz
   | frp l=>simp[SVal.sz]at hz
   | ab p=>simp only[Rep]at h;obtain⟨xs,rfl,h⟩:=h;simp[SVal.sz,Pay.len h]
   | lit k n=>simp only[Rep]at h;simp[SVal.sz,h]
   | int k n=>simp only[Rep]at h;simp[SVal.sz,h]
   | bl b=>simp only[Rep]at h;simp[SVal.sz,h]
   | bs b=>simp only[Rep]at h;simp[SVal.sz,h]
   | val v=>simp only[Rep]at h;simp[SVal.sz,h.1]
   | ptr id off=>simp only[Rep]at h;simp[SVal.sz,h]
   | yld id=>simp only[Rep]at h;simp[SVal.sz,h]
   | sl id es off len cap=>simp only[Rep]at h;obtain⟨o',e,_⟩:=h;simp[SVal.sz,e]
   | roi k xs=>simp only[Rep]at h;obtain⟨v,e,_⟩:=h;simp[SVal.sz,e]
   | rol k xss=>simp only[Rep]at h;obtain⟨a,c,e,_⟩:=h;simp[SVal.sz,e]
   | ror k es xss=>simp only[Rep]at h;obtain⟨a,c,e,_⟩:=h;simp[SVal.sz,e]
   | rop c off=>cases c<;>simp only[Rep]at h<;>first|(obtain⟨b,o,ws,e,_⟩:=h;simp[SVal.sz,e];done)|(obtain⟨b,o,e,_⟩:=h;simp[SVal.sz,e];done)
   | fn f a b=>simp only[Rep]at h;obtain⟨fs,cs,e,_⟩:=h;simp[SVal.sz,e]
   | roe cols n=>simp only[Rep]at h;obtain⟨a,c,e,_⟩:=h;simp[SVal.sz,e]
   | roq cols n i f=>simp only[Rep]at h;obtain⟨b,o,e,_⟩:=h;simp[SVal.sz,e]
   | roa q=>simp only[Rep]at h;obtain⟨a,c,ys,e,_⟩:=h;simp[SVal.sz,e]
   | roaq q i=>simp only[Rep]at h;obtain⟨b,o,ys,e,_⟩:=h;simp[SVal.sz,e]
theorem RepC.len {ρ:Rho} {H:Snap} : ∀ (l:List SVal) {vs:List Value},RepC ρ H l vs->SVal.sz.szL l ≠ 0->vs.length=SVal.sz.szL l
 | [],vs,h,hz=>by simp[SVal.sz.szL]at hz
 | c :: l,vs,h,hz=>by
   obtain⟨h1,h2,h3⟩:=qjd hz
   obtain⟨us,ws,e,hu,hw⟩:=RepC_cons.1 h
   have e1:=Rep.len c hu h1
   rcases h2 with h2|h2
   · subst h2
     simp only[RepC]at hw
     rw[h3,e,hw]
     simp[SVal.sz.szL,e1]
   · have e2:=RepC.len l hw h2
     rw[h3,e,List.length_append,e1,e2]
end
theorem Rep.one {ρ:Rho} {H:Snap} {c:SVal} {vs:List Value} (h:Rep ρ H c vs) (ho:c.isOne=true) : ∃ v,vs=[v]/\Den ρ H c v/\qaI v:=by
 cases c<;>simp only[SVal.isOne,Bool.false_eq_true]at ho<;>(try simp only[Rep]at h)<;>(try simp only[Den,Rep])
 case lit=>exact⟨_,h,rfl,trivial⟩
 case int=>exact⟨_,h,rfl,trivial⟩
 case bl=>exact⟨_,h,rfl,trivial⟩
 case bs=>exact⟨_,h,rfl,trivial⟩
 case val=>exact⟨_,h.1,⟨rfl,h.2⟩,h.2⟩
 case ptr=>exact⟨_,h,rfl,trivial⟩
 case yld=>exact⟨_,h,rfl,trivial⟩
 case sl=>obtain⟨ad,e,h⟩:=h;exact⟨_,e,⟨ad,rfl,h⟩,trivial⟩
 case roi =>
  obtain⟨v,e,hv⟩:=h
  refine⟨v,e,⟨v,rfl,hv⟩,?_⟩
  obtain⟨a,c,rfl,_⟩:=hv;trivial
 case rol=>obtain⟨a,c,e,h⟩:=h;exact⟨_,e,⟨a,c,rfl,h⟩,trivial⟩
 case ror=>obtain⟨a,c,e,h⟩:=h;exact⟨_,e,⟨a,c,rfl,h⟩,trivial⟩
 case rop c off =>
  cases c<;>simp only[Rep]at h ⊢ <;> first
   | (obtain⟨b,o,ws,e,h⟩:=h;exact⟨_,e,⟨b,o,ws,rfl,h⟩,trivial⟩)
   | (obtain⟨b,o,e,h⟩:=h;exact⟨_,e,⟨b,o,rfl,h⟩,trivial⟩)
 case fn=>obtain⟨fs,cs,e,h⟩:=h;exact⟨_,e,⟨fs,cs,rfl,h⟩,trivial⟩
 case roe=>obtain⟨a,c,e,h⟩:=h;exact⟨_,e,⟨a,c,rfl,h⟩,trivial⟩
 case roq=>obtain⟨b,o,e,h⟩:=h;exact⟨_,e,⟨b,o,rfl,h⟩,trivial⟩
 case roa=>obtain⟨a,c,ys,e,h⟩:=h;exact⟨_,e,⟨a,c,ys,rfl,h⟩,trivial⟩
 case roaq=>obtain⟨b,o,ys,e,h⟩:=h;exact⟨_,e,⟨b,o,ys,rfl,h⟩,trivial⟩
theorem Rep.agg' {ρ:Rho} {H:Snap} {c:SVal} {vs:List Value} (h:Rep ρ H c vs) (ho:c.isAgg=true):Den ρ H c (.agg vs.toArray):=by
 cases c<;>simp only[SVal.isAgg,Bool.false_eq_true]at ho<;>simp only[Rep]at h<;>simp only[Den]
 case row=>exact⟨h.1,by rw[h.2]⟩
 case agg=>exact⟨vs,h,rfl⟩
 case ab=>obtain⟨xs,rfl,h⟩:=h;exact⟨xs,h,rfl⟩
theorem Den.cells {ρ:Rho} {H:Snap} {s:SVal} {v:Value} (h:Den ρ H s v) (hc:qz s=true) (ho:(s.isOne || s.isAgg)=true):Rep ρ H s v.cells.toList:=by
 cases s<;>simp only[SVal.isOne,SVal.isAgg,Bool.or_self,Bool.false_eq_true]at ho<;>simp only[Den]at h
 case row=>simp only[Rep];exact⟨h.1,by rw[h.2];simp[Value.cells]⟩
 case agg=>obtain⟨us,h1,rfl⟩:=h;simpa[Rep,Value.cells]using h1
 case ab=>obtain⟨xs,h1,rfl⟩:=h;simp only[Rep];exact⟨xs,by simp[Value.cells],h1⟩
 all_goals
  obtain⟨u,e,_,h1⟩:=Rep.one h rfl
  cases e
  cases v<;>first|exact h1.elim|exact h
theorem qgY {ρ:Rho} {H:Snap} : ∀ (l:List SVal) {vs:List Value} (i:Nat) (hi:i<vs.length),RepV ρ H l vs->Den ρ H (getT l i) vs[i]
 | [],vs,i,hi,h=>by simp only[getT,Den]
 | s :: l,vs,0,hi,h=>by
   obtain⟨v,ws,rfl,h1,_⟩:=RepV_cons.1 h
   simpa only[getT,List.getElem_cons_zero]using h1
 | s :: l,vs,i+1,hi,h=>by
   obtain⟨v,ws,rfl,_,h2⟩:=RepV_cons.1 h
   simpa only[getT,List.getElem_cons_succ]using qgY l i (by simpa using hi) h2
section
variable {ρ:Rho} {H:Snap}
theorem qje : ∀ (l:List SVal) {vs:List Value} (m:Nat),RepC ρ H l vs->SVal.sz.szL (qa4 l m)=m->RepC ρ H (qa4 l m) (vs.take m)
 | [],vs,m,h,hz=>by
   simp only[RepC]at h;subst h
   simp[qa4,RepC]
 | c :: l,vs,0,h,hz=>by
   have e:qa4 (c :: l) 0=[]:=rfl
   rw[e];simp[RepC]
 | c :: l,vs,m+1,h,hz=>by
   have e:qa4 (c :: l) (m+1)=c :: qa4 l (m+1-c.sz):=rfl
   rw[e]at hz ⊢
   obtain⟨us,ws,rfl,h1,h2⟩:=RepC_cons.1 h
   have hz':SVal.sz.szL (c :: qa4 l (m+1-c.sz)) ≠ 0:=by rw[hz];omega
   obtain⟨g1,g2,g3⟩:=qjd hz'
   rw[hz]at g3
   have hu:=Rep.len c h1 g1
   have ih:=qje l (m+1-c.sz) h2 (by omega)
   refine RepC_cons.2 ⟨us,ws.take (m+1-c.sz),?_,h1,ih⟩
   rw[List.take_append,hu,List.take_of_length_le (by omega)]
variable {E:Env} (hΩ:E.Ω=Om.real)
include hΩ
mutual
theorem qdj : ∀ (c:SVal) {vs:List Value} (off m:Nat) (ag:Bool),Rep ρ H c vs->(hl:off+m<=vs.length)->(ag=false->m=1) ->
  ∀ v,(ag=true->v = .agg ((vs.drop off).take m).toArray)->(ag=false->vs[off]?=some v)->Den ρ H (qL E off m ag c) v
 | c,vs,off,m,ag,h,hl,hm,v,ha,hb=>by
   cases c with
   | junk=>simp[Rep]at h
   | row k n xs =>
     simp only[Rep]at h
     obtain⟨hn,rfl⟩:=h
     simp only[List.length_map]at hl
     cases ag with
     | true =>
       simp only[qL]
       have ha:=ha rfl
       split
       · rename_i hmn
         have hmn:=Nat.eq_of_beq_eq_true hmn
         obtain rfl:off=0:=by omega
         refine⟨hn,?_⟩
         rw[ha]
         simp only[List.drop_zero]
         rw[List.take_of_length_le (by simp;omega)]
       · refine⟨?_,?_⟩
         · rw[hΩ];simp[Om.real];omega
         · rw[ha,hΩ]
           simp[Om.real]
     | false =>
       simp only[qL,Den,Rep]
       have hb:=hb rfl
       rw[hΩ]
       simp only[Om.real,List.getElem?_map]at hb ⊢
       cases hx:xs[off]? with
       | none=>simp[hx]at hb
       | some x=>simp[hx]at hb;simp[List.getD,hx,hb]
   | seq k xs =>
     simp only[Rep]at h
     subst h
     simp only[List.length_map]at hl
     cases ag with
     | true =>
       simp only[qL]
       have ha:=ha rfl
       refine⟨?_,?_⟩
       · rw[hΩ];simp[Om.real];omega
       · rw[ha,hΩ]
         simp[Om.real]
     | false =>
       simp only[qL,Den,Rep]
       have hb:=hb rfl
       rw[hΩ]
       simp only[Om.real,List.getElem?_map]at hb ⊢
       cases hx:xs[off]? with
       | none=>simp[hx]at hb
       | some x=>simp[hx]at hb;simp[List.getD,hx,hb]
   | agg l =>
     simp only[Rep]at h
     simp only[qL]
     exact qjf l off m ag h hl hm v ha hb
   | lst l =>
     simp only[Rep]at h
     cases ag with
     | true=>simp[qL,Den]
     | false =>
       simp only[qL]
       have hb:=hb rfl
       obtain⟨hi,rfl⟩:=List.getElem?_eq_some_iff.1 hb
       exact qgY l off hi h.1
   | tup l =>
     cases ag with
     | true=>simp[qL,Den]
     | false =>
       simp only[qL]
       have h':=h
       simp only[Rep]at h
       obtain⟨ws,rfl,_⟩:=h
       have hb:=hb rfl
       have hm:=hm rfl
       obtain rfl:off=0:=by simp at hl;omega
       simp at hb
       subst hb
       exact h'
   | fr k xs cap=>simp[Rep]at h
   | fra q cap=>simp[Rep]at h
   | frp l=>simp[Rep]at h
   | sab q=>simp[qL,Den]
   | lck k xs=>simp[qL,Den]
   | lsr l xss=>simp[qL,Den]
   | ab p =>
     cases ag with
     | false=>simp[qL,Den]
     | true =>
       simp only[Rep]at h
       obtain⟨xs,rfl,h⟩:=h
       simp only[qL,Bool.true_and]
       split
       · rename_i hx
         simp only[Bool.and_eq_true]at hx
         have h1:=Nat.eq_of_beq_eq_true hx.1
         have h2:=Nat.eq_of_beq_eq_true hx.2
         subst h1
         refine⟨xs,h,?_⟩
         rw[ha rfl,List.drop_zero,List.take_of_length_le (by simp[Pay.len h,h2])]
       · simp[Den]
   | _ =>
     cases ag with
     | true=>simp[qL,Den]
     | false =>
       obtain⟨u,rfl,hu,_⟩:=Rep.one h rfl
       have hb:=hb rfl
       have hm:=hm rfl
       obtain rfl:off=0:=by simp at hl;omega
       simp at hb
       subst hb
       simpa only[qL]using hu
theorem qjf : ∀ (l:List SVal) {vs:List Value} (off m:Nat) (ag:Bool),RepC ρ H l vs->(hl:off+m<=vs.length)->(ag=false->m=1) ->
  ∀ v,(ag=true->v = .agg ((vs.drop off).take m).toArray)->(ag=false->vs[off]?=some v)->Den ρ H (getL E off m ag l) v
 | [],vs,off,m,ag,h,hl,hm,v,ha,hb=>by simp only[getL,Den]
 | c :: l,vs,off,m,ag,h,hl,hm,v,ha,hb=>by
   obtain⟨us,ws,rfl,h1,h2⟩:=RepC_cons.1 h
   simp only[getL]
   split
   · rename_i hle
     have hle:=Nat.le_of_ble_eq_true hle
     split
     · simp only[Den]
     · rename_i hz
       have hz:c.sz ≠ 0:=fun e=>by simp[e]at hz
       have hu:=Rep.len c h1 hz
       refine qjf l (off-c.sz) m ag h2 (by simp at hl;omega) hm v ?_ ?_
       · intro e
         rw[ha e,List.drop_append,List.drop_eq_nil_of_le (by omega),List.nil_append,hu]
       · intro e
         rw[<- hb e,List.getElem?_append_right (by omega),hu]
   · rename_i hle
     have hlt:off<c.sz:=by
       rcases Nat.lt_or_ge off c.sz with h|h
       · exact h
       · rw[Nat.ble_eq_true_of_le h]at hle;cases hle
     have hu:=Rep.len c h1 (by omega)
     split
     · rename_i hle2
       have hle2:=Nat.le_of_ble_eq_true hle2
       have ha':ag=true->v = .agg ((us.drop off).take m).toArray:=by
         intro e
         rw[ha e,List.drop_append_of_le_length (by omega),List.take_append_of_le_length (by simp;omega)]
       have hb':ag=false->us[off]?=some v:=by
         intro e
         rw[<- hb e,List.getElem?_append_left (by omega)]
       split
       · rename_i hc
         simp only[Bool.and_eq_true,beq_iff_eq]at hc
         obtain⟨⟨ho,hm'⟩,hag⟩:=hc
         have ho:=Nat.eq_of_beq_eq_true ho
         have hm':=Nat.eq_of_beq_eq_true hm'
         subst ho
         cases ag with
         | true =>
           rw[ha' rfl,List.drop_zero,List.take_of_length_le (by omega)]
           exact Rep.agg' h1 hag
         | false =>
           have hone:c.isOne=true:=by
             cases c<;>simp[SVal.isAgg,SVal.sz]at hag hlt<;>rfl
           obtain⟨u,rfl,hu,_⟩:=Rep.one h1 hone
           have:=hb' rfl
           simp at this
           subst this
           exact hu
       · exact qdj c off m ag h1 (by omega) hm v ha' hb'
     · split
       · have hz:=Nat.eq_of_beq_eq_true ‹Nat.beq _ _=true›
         rw[ha rfl]
         exact⟨_,by simpa using qje (c :: l) m h hz,rfl⟩
       · simp only[Den]
end
end
end Go.Sx
end
section
namespace Go.Sx
theorem qnX {l:List SVal}:qz (.agg l)=qa5 l:=rfl
theorem qjg {c:SVal} {l:List SVal}:qa5 (c :: l)=(qz c && qa5 l):=rfl
theorem qjh {ρ:Rho} {H:Snap} : ∀ (l:List SVal) {vs:List Value} (i:Nat) (s:SVal) (v:Value),RepV ρ H l vs->Den ρ H s v->i<vs.length ->
  RepV ρ H (setT l i s) (vs.set i v)
 | [],vs,i,s,v,h,hd,hi=>by simp only[RepV]at h;subst h;simp at hi
 | c :: l,vs,0,s,v,h,hd,hi=>by
   obtain⟨u,ws,rfl,h1,h2⟩:=RepV_cons.1 h
   exact RepV_cons.2 ⟨v,ws,rfl,hd,h2⟩
 | c :: l,vs,i+1,s,v,h,hd,hi=>by
   obtain⟨u,ws,rfl,h1,h2⟩:=RepV_cons.1 h
   exact RepV_cons.2 ⟨u,ws.set i v,rfl,h1,qjh l i s v h2 hd (by simpa using hi)⟩
theorem qji {α:Type} (vs:List α) (off:Nat) (u:α) (h:off<vs.length):vs.take off++[u]++vs.drop (off+1)=vs.set off u:=by
 rw[List.set_eq_take_append_cons_drop,if_pos h];simp
section
variable {ρ:Rho} {H:Snap} {E:Env} (hΩ:E.Ω=Om.real)
include hΩ
theorem qdk (k:IntKind) (xs ys:List Int) (off:Nat):(E.Ω.put xs off ys).map (Value.int k)=(xs.map (Value.int k)).take off++ys.map (Value.int k)++(xs.map (Value.int k)).drop (off+ys.length):=by
 rw[hΩ];simp[Om.real]
theorem qgZ (xs ys:List Int) (off:Nat) (h:off+ys.length<=xs.length):(E.Ω.put xs off ys).length=xs.length:=by
 rw[hΩ];simp[Om.real];omega
theorem qbH (k:IntKind) (xs:List Int) (off:Nat) (x:Int) (h:off<xs.length):(E.Ω.set xs off x).map (Value.int k)=(xs.map (Value.int k)).take off++[Value.int k x]++(xs.map (Value.int k)).drop (off+1):=by
 rw[hΩ,qji _ _ _ (by simpa using h)];simp[Om.real,List.map_set]
mutual
theorem qez : ∀ (c:SVal) {vs us:List Value} (off m:Nat) (s:SVal),Rep ρ H c vs->Rep ρ H s us->(s.isOne || s.isAgg)=true->us.length=m->0<m->off+m<=vs.length ->
  qz (qG E off m s c)=true->Rep ρ H (qG E off m s c) (vs.take off++us++vs.drop (off+m))
 | c,vs,us,off,m,s,h,hs,ho,hm,hp,hl,hc=>by
   cases c with
   | row k n xs =>
     simp only[Rep]at h
     obtain⟨hn,rfl⟩:=h
     simp only[List.length_map]at hl
     cases s with
     | row k' m' ys =>
       simp only[Rep]at hs
       obtain⟨hy,rfl⟩:=hs
       simp only[List.length_map]at hm
       simp only[qG]at hc ⊢
       split at hc
       · rename_i h1 h2
         have h1:=keq_iff.1 h1
         have h2:=Nat.eq_of_beq_eq_true h2
         subst h1
         obtain rfl:off=0:=by omega
         simp only[Rep]
         refine⟨hy,?_⟩
         simp only[List.take_zero,List.nil_append,Nat.zero_add]
         rw[List.drop_eq_nil_of_le (by simp;omega),List.append_nil]
       · rename_i h1 h2
         have h1:=keq_iff.1 h1
         subst h1
         simp only[Rep]
         refine⟨by rw[qgZ hΩ _ _ _ (by omega)];exact hn,?_⟩
         rw[qdk hΩ,hm]
       · simp[qz]at hc
     | lit k' x =>
       simp only[Rep]at hs
       subst hs
       simp only[List.length_cons,List.length_nil]at hm
       subst hm
       simp only[qG]at hc ⊢
       split at hc
       · rename_i h1
         have h1:=keq_iff.1 h1
         subst h1
         simp only[Rep]
         refine⟨by rw[hΩ];simpa[Om.real]using hn,?_⟩
         rw[qbH hΩ _ _ _ _ (by omega)]
       · simp[qz]at hc
     | int k' x =>
       simp only[Rep]at hs
       subst hs
       simp only[List.length_cons,List.length_nil]at hm
       subst hm
       simp only[qG]at hc ⊢
       split at hc
       · rename_i h1
         have h1:=keq_iff.1 h1
         subst h1
         simp only[Rep]
         refine⟨by rw[hΩ];simpa[Om.real]using hn,?_⟩
         rw[qbH hΩ _ _ _ _ (by omega)]
       · simp[qz]at hc
     | ab p =>
       simp only[qG]at hc ⊢
       split at hc
       · rename_i hx
         simp only[Bool.and_eq_true]at hx
         have h1:=Nat.eq_of_beq_eq_true hx.1
         have h2:=Nat.eq_of_beq_eq_true hx.2
         subst h1
         simp only[List.take_zero,List.nil_append,Nat.zero_add]
         rw[List.drop_eq_nil_of_le (by simp;omega),List.append_nil]
         exact hs
       · simp[qz]at hc
     | _=>simp[qG,qz]at hc
   | seq k xs =>
     simp only[Rep]at h
     subst h
     simp only[List.length_map]at hl
     cases s with
     | row k' m' ys =>
       simp only[Rep]at hs
       obtain⟨hy,rfl⟩:=hs
       simp only[List.length_map]at hm
       simp only[qG]at hc ⊢
       split at hc
       · rename_i h1
         have h1:=keq_iff.1 h1
         subst h1
         simp only[Rep]
         rw[qdk hΩ,hm]
       · simp[qz]at hc
     | lit k' x =>
       simp only[Rep]at hs
       subst hs
       simp only[List.length_cons,List.length_nil]at hm
       subst hm
       simp only[qG]at hc ⊢
       split at hc
       · rename_i h1
         have h1:=keq_iff.1 h1
         subst h1
         simp only[Rep]
         rw[qbH hΩ _ _ _ _ (by omega)]
       · simp[qz]at hc
     | int k' x =>
       simp only[Rep]at hs
       subst hs
       simp only[List.length_cons,List.length_nil]at hm
       subst hm
       simp only[qG]at hc ⊢
       split at hc
       · rename_i h1
         have h1:=keq_iff.1 h1
         subst h1
         simp only[Rep]
         rw[qbH hΩ _ _ _ _ (by omega)]
       · simp[qz]at hc
     | _=>simp[qG,qz]at hc
   | agg l =>
     simp only[Rep]at h
     simp only[qG]at hc ⊢
     split at hc
     · rename_i hx
       simp only[Bool.and_eq_true]at hx
       obtain⟨⟨h1,h2⟩,h3⟩:=hx
       have h1:=Nat.eq_of_beq_eq_true h1
       have h2:=Nat.eq_of_beq_eq_true h2
       subst h1
       have:=RepC.len l h (by omega)
       simp only[List.take_zero,List.nil_append,Nat.zero_add]
       rw[List.drop_eq_nil_of_le (by omega),List.append_nil]
       exact hs
     · simp only[Rep]
       exact qjj l off m s h hs ho hm hp hl (by simpa only[qnX]using hc)
   | lst l =>
     simp only[Rep]at h
     simp only[qG]at hc ⊢
     split at hc
     · rename_i h1
       obtain⟨u,rfl,hu,hone⟩:=Rep.one hs h1
       simp only[List.length_cons,List.length_nil]at hm
       subst hm
       simp only[Rep]
       rw[qji _ _ _ (by omega)]
       refine⟨qjh l off s u h.1 hu (by omega),fun v hv => ?_⟩
       rcases List.mem_or_eq_of_mem_set hv with h2|h2
       · exact h.2 v h2
       · subst h2;exact hone
     · simp[qz]at hc
   | junk=>simp[Rep]at h
   | fr k xs cap=>simp[Rep]at h
   | fra q cap=>simp[Rep]at h
   | frp l=>simp[Rep]at h
   | sab q=>simp[qG,qz]at hc
   | lck k xs=>simp[qG,qz]at hc
   | lsr l xss=>simp[qG,qz]at hc
   | ab p =>
     simp only[Rep]at h
     obtain⟨xs,rfl,h⟩:=h
     simp only[qG]at hc ⊢
     split at hc
     · rename_i hx
       simp only[Bool.and_eq_true]at hx
       have h1:=Nat.eq_of_beq_eq_true hx.2.1
       have h2:=Nat.eq_of_beq_eq_true hx.2.2
       subst h1
       simp only[List.take_zero,List.nil_append,Nat.zero_add]
       rw[List.drop_eq_nil_of_le (by simp[Pay.len h,h2]),List.append_nil]
       exact hs
     · simp[qz]at hc
   | _ =>
     have hv:vs.length=1:=by
       first
         | exact Rep.len _ h (by simp[SVal.sz])
         | (simp only[Rep]at h;obtain⟨ws,rfl,_⟩:=h;rfl)
     simp only[qG]at hc ⊢
     split at hc
     · rename_i h1
       obtain⟨u,rfl,hu,hone⟩:=Rep.one hs h1
       simp only[List.length_cons,List.length_nil]at hm
       subst hm
       obtain rfl:off=0:=by omega
       simp only[List.take_zero,List.nil_append,Nat.zero_add]
       rw[List.drop_eq_nil_of_le (by omega),List.append_nil]
       exact hs
     · simp[qz]at hc
theorem qjj : ∀ (l:List SVal) {vs us:List Value} (off m:Nat) (s:SVal),RepC ρ H l vs->Rep ρ H s us->(s.isOne || s.isAgg)=true->us.length=m->0<m->off+m<=vs.length ->
  qa5 (putL E off m s l)=true->RepC ρ H (putL E off m s l) (vs.take off++us++vs.drop (off+m))
 | [],vs,us,off,m,s,h,hs,ho,hm,hp,hl,hc=>by simp[putL,qa5,qz]at hc
 | c :: l,vs,us,off,m,s,h,hs,ho,hm,hp,hl,hc=>by
   obtain⟨cs,ws,rfl,h1,h2⟩:=RepC_cons.1 h
   simp only[putL]at hc ⊢
   split at hc
   · simp[qa5,qz]at hc
   · rename_i hz
     have hz:c.sz ≠ 0:=fun e=>by simp[e]at hz
     have hu:=Rep.len c h1 hz
     split at hc
     · rename_i hle
       have hle:=Nat.le_of_ble_eq_true hle
       simp only[qjg,Bool.and_eq_true]at hc
       refine RepC_cons.2 ⟨cs,ws.take (off-c.sz)++us++ws.drop (off-c.sz+m),?_,h1,qjj l (off-c.sz) m s h2 hs ho hm hp (by simp at hl;omega) hc.2⟩
       rw[List.take_append,List.take_of_length_le (by omega),List.drop_append,List.drop_eq_nil_of_le (by omega),List.nil_append,hu]
       simp only[List.append_assoc]
       congr 4
       omega
     · rename_i hle
       have hlt:off<c.sz:=by
         rcases Nat.lt_or_ge off c.sz with h|h
         · exact h
         · rw[Nat.ble_eq_true_of_le h]at hle;cases hle
       split at hc
       · rename_i hle2
         have hle2:=Nat.le_of_ble_eq_true hle2
         have e:(cs++ws).take off++us++(cs++ws).drop (off+m)=(cs.take off++us++cs.drop (off+m))++ws:=by
           rw[List.take_append_of_le_length (by omega),List.drop_append_of_le_length (by omega)]
           simp only[List.append_assoc]
         rw[e]
         split at hc
         · rename_i hx
           simp only[Bool.and_eq_true,beq_iff_eq]at hx
           obtain⟨⟨g1,g2⟩,g3⟩:=hx
           have g1:=Nat.eq_of_beq_eq_true g1
           have g2:=Nat.eq_of_beq_eq_true g2
           subst g1
           refine RepC_cons.2 ⟨_,ws,rfl,?_,h2⟩
           simp only[List.take_zero,List.nil_append,Nat.zero_add]
           rw[List.drop_eq_nil_of_le (by omega),List.append_nil]
           exact hs
         · simp only[qjg,Bool.and_eq_true]at hc
           exact RepC_cons.2 ⟨_,ws,rfl,qez c off m s h1 hs ho hm hp (by omega) hc.1,h2⟩
       · simp[qa5,qz]at hc
end
end
end Go.Sx
end
section
namespace Go.Sx
def Agree (H:Snap) (w:World):Prop :=∀ b o,H b=some o->w.heap[b]?=some o
def qah:SVal->Bool
 | .lck .. => true
 | _=>false
abbrev Tf:=TypeId × (Nat × Nat)
structure Lies (ρ:Rho) (H:Snap) (w:World) (id:Nat) (c:SVal) (arr:Array Value) (t:Tf) (vs:List Value):Prop where
 real:(ρ id).g=false
 blk:w.heap[(ρ id).b]?=some (.cells arr t.1 t.2)
 own:H (ρ id).b=none
 rep:Rep ρ H c vs
 room:(ρ id).o+(ρ id).room<=arr.size
 fits:vs.length<=(ρ id).room
 cells : ∀ (j:Nat) v,vs[j]?=some v->arr[(ρ id).o+j]?=some v
 fz:qah c=false->t.2=(0,0)
theorem Lies.blk0 {ρ:Rho} {H:Snap} {w:World} {id:Nat} {c:SVal} {arr:Array Value} {t:Tf} {vs:List Value} (l:Lies ρ H w id c arr t vs) (h:qah c=false):w.heap[(ρ id).b]?=some (.cells arr t.1 (0,0)):=by
 rw[<- l.fz h];exact l.blk
def gho:Option IntKind->SVal
 | some k =>.seq k []
 | none =>.lsr [] []
def qat (ρ:Rho) (id:Nat) (c:SVal):Prop:=(ρ id).g=true/\(ρ id).room=0 /\ ∃ k,c=gho k
theorem qjk {ρ:Rho} {H:Snap} {k:Option IntKind}:Rep ρ H (gho k) []:=by
 cases k with
 | some k=>simp[gho,Rep]
 | none =>
   simp only[gho,Rep,RepV]
   exact⟨[],[],rfl,rfl,fun v hv=>by simp at hv,rfl,fun j xs hj=>by simp at hj⟩
def qdl (ρ:Rho) (H:Snap) (w:World) (h:Heap):Prop :=
 (∀ id c,(id,c) ∈ h->qat ρ id c \/ ∃ arr t vs,Lies ρ H w id c arr t vs)/\h.Pairwise (fun a b=>a.1 ≠ b.1/\((ρ a.1).g=false->(ρ b.1).g=false->(ρ a.1).b ≠ (ρ b.1).b))
structure Same (w w':World):Prop where
 os:w'.os=w.os
 tape:w'.tape=w.tape
 output:w'.output=w.output
 size:w.heap.size<=w'.heap.size
theorem Same.refl (w:World):Same w w:=⟨rfl,rfl,rfl,Nat.le_refl _⟩
theorem Same.trans {a b c:World} (h:Same a b) (k:Same b c):Same a c :=
 ⟨k.os.trans h.os,k.tape.trans h.tape,k.output.trans h.output,Nat.le_trans h.size k.size⟩
structure Rel (E:Env) (ρ:Rho) (H:Snap) (ts:List SVal) (h:Heap) (top:Top) (a:Act) (w:World):Prop where
 len:ts.length<=a.tmps.size
 den : ∀ i,Den ρ H (getT ts i) (a.tmps.getD i undef)
 ids : ∀ i,IdsLt top (getT ts i)
 hids : ∀ id c,(id,c) ∈ h->top id/\IdsLt top c
 agree:Agree H w
 heap:qdl ρ H w h
 defers:a.defers=H.defs
 glob : ∀ g,Den ρ H (E.glob g) (.pointer (some ⟨g,0,none⟩))/\IdsLt noId (E.glob g)
 same:Same H.w0 w
def TDm:TD->TypeDesc->Prop
 | .int k,d=>d = .int k
 | .bool,d=>d = .bool
 | .str,d=>d = .string
 | .ptr e,d=>d = .pointer e
 | .slice e,d=>d = .slice e
 | .arr n e,d=>d = .array n e
 | .st fs,d =>∃ l,d = .struct l/\fs=l.toList.map fun f=>(f.offset,f.type)
 | .other,d =>¬ (∃ l,d = .struct l) /\ ∀ n e,d ≠ .array n e
structure TyOk (P:Program) (t:TypeId) (ti:TI):Prop where
 under : ∃ d,P.underlying t=some d/\TDm ti.d d
 agg:ti.agg=true ↔ (∃ fs,ti.d = .st fs) \/ ∃ n e,ti.d = .arr n e
 info : ∃ i z,P.info? t=some i/\i.size=ti.size/\i.bytes=ti.bytes/\i.zero=some z/\z.cells.size=ti.size /\ ∀ ρ H,Den ρ H ti.zero z/\Rep ρ H ti.zero z.cells.toList
 pos:0<ti.size
 one:ti.agg=false->ti.size=1
 zid:IdsLt noId ti.zero
def qjl:Array Value->Sem Value:=fun args=>do
 let (x,y,b) <- Extern.MathBitsCarry.three "Sub64" args
 pure (Extern.MathBitsCarry.pair ((x+Extern.MathBitsCarry.m64-y-b) % Extern.MathBitsCarry.m64) (if x<y+b then 1 else 0))
theorem qnY {P:Program} (x y b:Nat) (hb:b<=1) (w:World) :
  (qjl #[.int .u64 x,.int .u64 y,.int .u64 b]).run P w =
   .ok (.tuple #[.int .u64 (((x+18446744073709551616-y-b) % 18446744073709551616:Nat):Int),.int .u64 ((if x<y+b then 1 else 0:Nat):Int)]) w:=by
 have:b=0\/b=1:=by omega
 rcases this with rfl|rfl<;>rfl
def XK.entry:XK->Array Value->Sem Value
 | .add=>Go.add64Entry
 | .sub=>qjl
def XOk (P:Program) (g:FuncId) (k:XK):Prop :=∀ (args:Array Value) (w:World),(callFunc g args).run P w=((k.entry args).run P w).andThen fun v w' =>.ok (.value v) w'
structure EnvOk (P:Program) (E:Env):Prop where
 om:E.Ω=Om.real
 ext : ∀ g k,E.X g=some k->XOk P g k
 ty : ∀ t ti,E.T t=some ti->TyOk P t ti
mutual
theorem IdsLt.mono {t t':Top} (h : ∀ i,t i->t' i) : ∀ (s:SVal),IdsLt t s->IdsLt t' s
 | s,hs=>by
   cases s with
   | agg l=>exact IdsLtL.mono h l hs
   | lst l=>exact IdsLtL.mono h l hs
   | lsr l xss=>exact IdsLtL.mono h l hs
   | tup l=>exact IdsLtL.mono h l hs
   | frp l=>exact IdsLtL.mono h l hs
   | ptr id o=>exact h _ hs
   | yld id=>exact h _ hs
   | sl id es o n c=>exact h _ hs
   | rop c o=>exact IdsLt.mono h c hs
   | fn f a b=>exact⟨IdsLtL.mono h a hs.1,IdsLtL.mono h b hs.2⟩
   | _=>trivial
theorem IdsLtL.mono {t t':Top} (h : ∀ i,t i->t' i) : ∀ (l:List SVal),IdsLtL t l->IdsLtL t' l
 | [],_=>trivial
 | s :: l,hs=>⟨IdsLt.mono h s hs.1,IdsLtL.mono h l hs.2⟩
end
theorem qdm {t:Top} : ∀ (l:List SVal) (i:Nat),IdsLtL t l->IdsLt t (getT l i)
 | [],i,_=>trivial
 | s :: l,0,h=>h.1
 | s :: l,i+1,h=>qdm l i h.2
theorem qeA : ∀ (l:List SVal) (i:Nat) (s:SVal),i<l.length->getT (setT l i s) i=s
 | [],i,s,h=>by simp at h
 | _ :: l,0,s,h=>rfl
 | _ :: l,i+1,s,h=>by simp only[setT,getT];exact qeA l i s (by simpa using h)
theorem qjm : ∀ (l:List SVal) (i j:Nat) (s:SVal),i ≠ j->getT (setT l i s) j=getT l j
 | [],i,j,s,h=>by simp[setT]
 | _ :: l,0,0,s,h=>absurd rfl h
 | _ :: l,0,j+1,s,h=>rfl
 | _ :: l,i+1,0,s,h=>rfl
 | _ :: l,i+1,j+1,s,h=>by simp only[setT,getT];exact qjm l i j s (fun e=>h (by rw[e]))
theorem qjn : ∀ (l:List SVal) (i:Nat) (s:SVal),(setT l i s).length=l.length
 | [],i,s=>by simp[setT]
 | _ :: l,0,s=>by simp[setT]
 | _ :: l,i+1,s=>by simp[setT,qjn l i s]
theorem qeB : ∀ (l:List SVal) (i:Nat) (s:SVal),l.length<=i->setT l i s=l
 | [],i,s,h=>by simp[setT]
 | _ :: l,0,s,h=>by simp at h
 | _ :: l,i+1,s,h=>by simp only[setT];rw[qeB l i s (by simpa using h)]
mutual
theorem qbv {t:Top} {E:Env} : ∀ (c:SVal) (off m:Nat) (ag:Bool),IdsLt t c->IdsLt t (qL E off m ag c)
 | c,off,m,ag,h=>by
   cases c with
   | row k n xs=>cases ag<;>simp only[qL]<;>(try split)<;>trivial
   | seq k xs=>cases ag<;>simp only[qL]<;>trivial
   | agg l=>simp only[qL];exact qjo l off m ag h
   | lst l=>cases ag<;>simp only[qL]<;>first|trivial|exact qdm l off h
   | ab p=>simp only[qL];split<;>trivial
   | _=>cases ag<;>simp only[qL]<;>first|trivial|exact h
theorem qjo {t:Top} {E:Env} : ∀ (l:List SVal) (off m:Nat) (ag:Bool),IdsLtL t l->IdsLt t (getL E off m ag l)
 | [],off,m,ag,h=>trivial
 | c :: l,off,m,ag,h=>by
   simp only[getL]
   split
   · split
     · trivial
     · exact qjo l _ m ag h.2
   · split
     · split
       · exact h.1
       · exact qbv c off m ag h.1
     · split
       · exact qjp (c :: l) m h
       · trivial
theorem qjp {t:Top} : ∀ (l:List SVal) (m:Nat),IdsLtL t l->IdsLtL t (qa4 l m)
 | [],m,h=>trivial
 | c :: l,0,h=>trivial
 | c :: l,m+1,h=>⟨h.1,qjp l _ h.2⟩
end
theorem qjq {t:Top} : ∀ (l:List SVal) (i:Nat) (s:SVal),IdsLtL t l->IdsLt t s->IdsLtL t (setT l i s)
 | [],i,s,h,hs=>trivial
 | c :: l,0,s,h,hs=>⟨hs,h.2⟩
 | c :: l,i+1,s,h,hs=>⟨h.1,qjq l i s h.2 hs⟩
mutual
theorem qdn {t:Top} {E:Env} : ∀ (c:SVal) (off m:Nat) (s:SVal),IdsLt t c->IdsLt t s->IdsLt t (qG E off m s c)
 | c,off,m,s,h,hs=>by
   cases c with
   | row k n xs=>cases s<;>simp only[qG]<;>(try split)<;>trivial
   | seq k xs=>cases s<;>simp only[qG]<;>(try split)<;>trivial
   | agg l =>
     simp only[qG]
     split
     · exact hs
     · exact qjr l off m s h hs
   | lst l =>
     simp only[qG]
     split
     · exact qjq l off s h hs
     · trivial
   | sab q=>simp only[qG];trivial
   | lck k xs=>simp only[qG];trivial
   | lsr l xss=>simp only[qG];trivial
   | _=>simp only[qG];split<;>first|exact hs|trivial
theorem qjr {t:Top} {E:Env} : ∀ (l:List SVal) (off m:Nat) (s:SVal),IdsLtL t l->IdsLt t s->IdsLtL t (putL E off m s l)
 | [],off,m,s,h,hs=>⟨trivial,trivial⟩
 | c :: l,off,m,s,h,hs=>by
   simp only[putL]
   split
   · exact⟨trivial,trivial⟩
   · split
     · exact⟨h.1,qjr l _ m s h.2 hs⟩
     · split
       · split
         · exact⟨hs,h.2⟩
         · exact⟨qdn c off m s h.1 hs,h.2⟩
       · exact⟨trivial,trivial⟩
end
section
variable {P:Program} {E:Env} (hE:EnvOk P E) {ρ:Rho} {H:Snap} {ts:List SVal} {h:Heap} {top:Top} {a:Act} {w:World}
theorem Rel.evl (R:Rel E ρ H ts h top a w) (x:Operand):Den ρ H (evl E ts x) (a.eval x)/\IdsLt top (evl E ts x):=by
 cases x with
 | tmp t=>exact⟨R.den t,R.ids t⟩
 | const v =>
   cases v<;>simp only[Sx.evl,Act.eval]<;>refine⟨?_,trivial⟩<;>simp[Den,Rep,qaI]
 | global g=>exact⟨(R.glob g).1,IdsLt.mono (fun _ h=>h.elim) _ (R.glob g).2⟩
 | func f=>exact⟨by simp[Sx.evl,Den,Rep,Act.eval,RepV],by simp[Sx.evl,IdsLt,IdsLtL]⟩
theorem Rel.den1 (R:Rel E ρ H ts h top a w) (x:Operand):Den ρ H (Sx.evl E ts x) (a.eval x):=(R.evl x).1
theorem Rel.ids1 (R:Rel E ρ H ts h top a w) (x:Operand):IdsLt top (Sx.evl E ts x):=(R.evl x).2
mutual
theorem Rep.ones : ∀ (c:SVal) {vs:List Value},qz c=true->Rep ρ H c vs -> ∀ v ∈ vs,qaI v
 | c,vs,hc,hr=>by
   cases c with
   | row k n xs=>simp only[Rep]at hr;rw[hr.2];intro v hv;obtain⟨x,_,rfl⟩:=List.mem_map.1 hv;trivial
   | seq k xs=>simp only[Rep]at hr;rw[hr];intro v hv;obtain⟨x,_,rfl⟩:=List.mem_map.1 hv;trivial
   | lck k xs=>simp only[Rep]at hr;rw[hr];intro v hv;obtain⟨x,_,rfl⟩:=List.mem_map.1 hv;trivial
   | agg l=>simp only[Rep]at hr;exact RepC.ones l (by simpa only[qz]using hc) hr
   | lst l=>simp only[Rep]at hr;exact hr.2
   | lsr l xss =>
     simp only[Rep]at hr
     obtain⟨us,ws,rfl,_,h1,h2,h3⟩:=hr
     intro v hv
     rcases List.mem_append.1 hv with hv|hv
     · exact h1 v hv
     · obtain⟨j,hj,rfl⟩:=List.mem_iff_getElem.1 hv
       obtain⟨u,hu,a,c,e,_⟩:=h3 j _ (List.getElem?_eq_getElem (show j<xss.length by omega))
       rw[List.getElem?_eq_getElem hj]at hu
       cases hu
       rw[e]
       trivial
   | junk=>simp[qz]at hc
   | tup l=>simp[qz]at hc
   | fr k xs cap=>simp[qz]at hc
   | fra q cap=>simp[qz]at hc
   | frp l=>simp[qz]at hc
   | sab q=>simp only[Rep]at hr;obtain⟨xs,rfl,_⟩:=hr;intro v hv;obtain⟨x,_,rfl⟩:=List.mem_map.1 hv;trivial
   | ab p=>simp only[Rep]at hr;obtain⟨xs,rfl,_⟩:=hr;intro v hv;obtain⟨x,_,rfl⟩:=List.mem_map.1 hv;trivial
   | _ =>
     obtain⟨u,rfl,_,ho⟩:=Rep.one hr rfl
     intro v hv
     simp only[List.mem_singleton]at hv
     subst hv
     exact ho
theorem RepC.ones : ∀ (l:List SVal) {vs:List Value},qa5 l=true->RepC ρ H l vs -> ∀ v ∈ vs,qaI v
 | [],vs,hc,hr=>by simp only[RepC]at hr;subst hr;intro v hv;cases hv
 | c :: l,vs,hc,hr=>by
   obtain⟨us,ws,rfl,h1,h2⟩:=RepC_cons.1 hr
   simp only[qa5,Bool.and_eq_true]at hc
   intro v hv
   rcases List.mem_append.1 hv with h|h
   · exact Rep.ones c hc.1 h1 v h
   · exact RepC.ones l hc.2 h2 v h
end
theorem qA {t:TypeId} {d:TypeDesc} (hu:P.underlying t=some d) (w:World):(underlying t).run P w = .ok d w:=by
 simp[underlying,hu]
theorem TyOk.run_isAgg {t:TypeId} {ti:TI} (ht:TyOk P t ti) (w:World):(isAgg t).run P w = .ok ti.agg w:=by
 obtain⟨d,hu,hd⟩:=ht.under
 have ha:=ht.agg
 simp only[isAgg,Sem.run_bind,qA hu,Result.andThen_ok]
 cases hb:ti.d<;>simp only[hb,TDm]at hd ha
 case other =>
  have:ti.agg=false:=by
   rcases Bool.eq_false_or_eq_true ti.agg with h|h
   ·have:=ha.1 h;simp at this
   ·exact h
  rw[this]
  split
  ·exact absurd ⟨_,rfl⟩ hd.1
  ·exact absurd rfl (hd.2 _ _)
  ·rfl
 case st fs =>
  obtain⟨l,rfl,_⟩:=hd
  rw[ha.2 (.inl ⟨fs,rfl⟩)];rfl
 case arr n e =>
  subst hd
  rw[ha.2 (.inr ⟨n,e,rfl⟩)];rfl
 all_goals
  subst hd
  have:ti.agg=false:=by
   rcases Bool.eq_false_or_eq_true ti.agg with h|h
   ·have:=ha.1 h;simp at this
   ·exact h
  rw[this];rfl
theorem TyOk.run_sizeOf {t:TypeId} {ti:TI} (ht:TyOk P t ti) (w:World):(sizeOf t).run P w = .ok ti.size w:=by
 obtain⟨i,z,hi,h1,_⟩:=ht.info
 simp[sizeOf,typeInfo,hi,h1]
theorem TyOk.run_info {t:TypeId} {ti:TI} (ht:TyOk P t ti) (w:World) : ∃ i,(typeInfo t).run P w = .ok i w/\i.bytes=ti.bytes:=by
 obtain⟨i,z,hi,_,h2,_⟩:=ht.info
 exact⟨i,by simp[typeInfo,hi],h2⟩
theorem TyOk.run_zero {t:TypeId} {ti:TI} (ht:TyOk P t ti) (w:World) : ∃ z,(zeroValue t).run P w = .ok z w/\z.cells.size=ti.size /\ ∀ ρ H,Den ρ H ti.zero z/\Rep ρ H ti.zero z.cells.toList:=by
 obtain⟨i,z,hi,_,_,hz,h1,h2⟩:=ht.info
 exact⟨z,by simp[zeroValue,typeInfo,hi,hz],h1,h2⟩
theorem qeC {t:TypeId} {ti:TI} (ht:TyOk P t ti) {b o off:Nat} {vs:List Value} {w:World} (hc : ∀ (j:Nat) v,vs[j]?=some v->w.cell? ⟨b,o+j,none⟩=some v)
  (hl:off+ti.size<=vs.length) : ∃ v,(loadVar t ⟨b,o+off,none⟩).run P w = .ok v w/\(ti.agg=true->v = .agg ((vs.drop off).take ti.size).toArray)/\(ti.agg=false->vs[off]?=some v):=by
 cases ha:ti.agg with
 | true =>
   refine⟨.agg ((vs.drop off).take ti.size).toArray,?_,fun _=>rfl,fun h=>by cases h⟩
   have e:(loadCells ⟨b,o+off,none⟩ ti.size).run P w = .ok ((vs.drop off).take ti.size).toArray w:=by
     have hlen:((vs.drop off).take ti.size).length=ti.size:=by simp;omega
     have:=run_loadCells_list (P:=P) (w:=w) ⟨b,o+off,none⟩ ((vs.drop off).take ti.size) (fun j v hj=>by
       have hj':vs[off+j]?=some v:=by
         rw[List.getElem?_take]at hj
         split at hj
         · rw[List.getElem?_drop]at hj;exact hj
         · cases hj
       have:=hc (off+j) v hj'
       unfold Addr.add
       split
       · subst_vars;simpa using this
       · simpa[Nat.add_assoc]using this)
     rw[hlen]at this
     exact this
   simp only[loadVar,Sem.run_bind,ht.run_isAgg,Result.andThen_ok,ha,if_true,ht.run_sizeOf,e,Sem.run_pure]
 | false =>
   have h1:=ht.one ha
   have:off<vs.length:=by omega
   refine⟨vs[off],?_,(by intro h;cases h),fun _=>List.getElem?_eq_getElem this⟩
   simp only[loadVar,Sem.run_bind,ht.run_isAgg,Result.andThen_ok,ha,Bool.false_eq_true,if_false,run_load]
   rw[hc off _ (List.getElem?_eq_getElem this)]
theorem Lies.cell {id:Nat} {c:SVal} {arr:Array Value} {t:Tf} {vs:List Value} (l:Lies ρ H w id c arr t vs) (j:Nat) (v:Value) (hj:vs[j]?=some v) :
  w.cell? ⟨(ρ id).b,(ρ id).o+j,none⟩=some v:=by
 simp[World.cell?,l.blk,l.cells j v hj]
theorem qeD {b o:Nat} {t:TypeId} : ∀ (us:List Value) (i:Nat) (w:World) (arr:Array Value),w.heap[b]?=some (.cells arr t (0,0))->(∀ u ∈ us,qaI u) ->
  o+i+us.length<=arr.size -> ∃ w' arr',(storeCells ⟨b,o,none⟩ us i).run P w = .ok () w'/\w'.heap[b]?=some (.cells arr' t (0,0))/\arr'.size=arr.size /\
   (∀ j,arr'[j]?=if o+i<=j/\j<o+i+us.length then us[j-(o+i)]? else arr[j]?)/\(∀ k,k ≠ b->w'.heap[k]?=w.heap[k]?)/\Same w w'/\w'.heap.size=w.heap.size
 | [],i,w,arr,hb,ho,hl=>⟨w,arr,rfl,hb,rfl,fun j=>by rw[if_neg (by simp)],fun _ _=>rfl,Same.refl w,rfl⟩
 | u :: us,i,w,arr,hb,ho,hl=>by
   simp only[List.length_cons]at hl
   have hlt:o+i<arr.size:=by omega
   have hcell:w.cell? ⟨b,o+i,none⟩=some arr[o+i]:=by simp[World.cell?,hb,hlt]
   have hfr:w.frozen? ⟨b,o+i,none⟩=false:=by simp[World.frozen?,hb]
   have hadd:(⟨b,o,none⟩:Addr).add i=⟨b,o+i,none⟩:=by
     unfold Addr.add;split<;>simp_all
   have hone:u.oneCell'=true:=by
     have:=ho u (List.mem_cons_self ..)
     cases u<;>first|rfl|exact this.elim
   have hst:(store ⟨b,o+i,none⟩ u).run P w = .ok () (w.setCell ⟨b,o+i,none⟩ u):=by
     rw[run_store P w _ _ _ hone,hcell];simp[hfr]
   have hb':(w.setCell ⟨b,o+i,none⟩ u).heap[b]?=some (.cells (arr.setIfInBounds (o+i) u) t (0,0)):=by
     simp[World.setCell,Array.getElem?_modify,hb]
   obtain⟨w',arr',h1,h2,h3,h4,h5,h6,h7⟩:=qeD (o:=o) us (i+1) (w.setCell ⟨b,o+i,none⟩ u) _ hb' (fun v hv=>ho v (List.mem_cons_of_mem _ hv)) (by simp only[Array.size_setIfInBounds];omega)
   refine⟨w',arr',?_,h2,by simpa using h3,fun j => ?_,fun k hk => ?_,?_,by simpa[World.setCell]using h7⟩
   · rw[storeCells]
     simp only[hadd,Sem.run_bind,hst,Result.andThen_ok]
     exact h1
   · rw[h4 j]
     simp only[List.length_cons]
     by_cases e:j=o+i
     · subst e
       rw[if_neg (by omega),if_pos (by omega)]
       simp[hlt]
     · by_cases g:o+(i+1)<=j/\j<o+(i+1)+us.length
       · rw[if_pos g,if_pos (by omega)]
         rw[show j-(o+i)=(j-(o+(i+1)))+1 by omega]
         simp
       · rw[if_neg g,if_neg (by omega)]
         rw[Array.getElem?_setIfInBounds_ne (by omega)]
   · rw[h5 k hk]
     simp[World.setCell,Array.getElem?_modify,Ne.symm hk]
   · exact(show Same w (w.setCell ⟨b,o+i,none⟩ u) from ⟨rfl,rfl,rfl,by simp⟩).trans h6
theorem qnZ {t:TypeId} {ti:TI} (ht:TyOk P t ti) {b o:Nat} {te:TypeId} {v:Value} {w:World} {arr:Array Value} (hb:w.heap[b]?=some (.cells arr te (0,0)))
  (ho : ∀ u ∈ v.cells.toList,qaI u) (hs:v.cells.size=ti.size) (hl:o+ti.size<=arr.size) :
  ∃ w' arr',(storeVar t ⟨b,o,none⟩ v).run P w = .ok () w'/\w'.heap[b]?=some (.cells arr' te (0,0))/\arr'.size=arr.size /\
   (∀ j,arr'[j]?=if o<=j/\j<o+ti.size then v.cells.toList[j-o]? else arr[j]?)/\(∀ k,k ≠ b->w'.heap[k]?=w.heap[k]?)/\Same w w'/\w'.heap.size=w.heap.size:=by
 obtain⟨w',arr',h1,h2,h3,h4,h5,h6,h7⟩:=qeD (P:=P) (o:=o) v.cells.toList 0 w arr hb ho (by simp;omega)
 refine⟨w',arr',?_,h2,h3,fun j => ?_,h5,h6,h7⟩
 ·simp only[storeVar,Sem.run_bind,ht.run_sizeOf,Result.andThen_ok,hs,ne_eq,not_true_eq_false,if_false,Sem.run_ite]
  simpa using h1
 ·rw[h4 j];simp[hs]
end
end Go.Sx
end
section
namespace Go.Sx
def qX (P:Program) (g:FuncId):Prop :=∀ (args:Array Value) (w:World),(callFunc g args).run P w = .ok (.enter g args) w
section
variable (P:Program) (E:Env) (ρ:Rho) (H:Snap) (h:Heap) (top:Top) (a:Act) (w:World) (o:Oper)
def q8 (v:SVal):Prop :=∃ u,(execOp a.eval o).run P w = .ok (.value u) w/\Den ρ H v u/\IdsLt top v
def qdo (c:SVal) (mk:Nat->SVal):Prop :=∃ u arr t vs,(execOp a.eval o).run P w = .ok (.value u) (w.alloc (.cells arr t))/\Rep ρ H c vs/\IdsLt top c/\arr.toList=vs /\
 ∀ (ρ':Rho) id,ρ' id=⟨w.heap.size,0,vs.length,false⟩->Den ρ' H (mk id) u/\IdsLt (fun i=>i=id) (mk id)
def UpdW (id:Nat) (c:SVal) (w':World):Prop:=(∃ c0,(id,c0) ∈ h)/\IdsLt top c/\Same w w'/\w'.heap.size=w.heap.size/\(∀ k,k ≠ (ρ id).b->w'.heap[k]?=w.heap[k]?) /\
 ∃ arr t vs,Lies ρ H w' id c arr t vs
def qeE (id:Nat) (c:SVal):Prop :=∃ w',(execOp a.eval o).run P w = .ok .skip w'/\UpdW ρ H h top w id c w'
def qjs (v:SVal) (id:Nat) (c:SVal):Prop :=∃ u w',(execOp a.eval o).run P w = .ok (.value u) w'/\Den ρ H v u/\IdsLt top v/\UpdW ρ H h top w id c w'
def qM:Out->Prop
 | .bad=>True
 | .set v=>q8 P ρ H top a w o v
 | .setp p v=>p ()->q8 P ρ H top a w o v
 | .new c mk=>qdo P ρ H top a w o c mk
 | .newp p c mk=>p ()->qdo P ρ H top a w o c mk
 | .upd id c=>qeE P ρ H h top a w o id c
 | .updp p id c=>p ()->qeE P ρ H h top a w o id c
 | .cpy p v id c=>p ()->qjs P ρ H h top a w o v id c
 | .call p s =>∃ g s0 args vs,E.G g=some s0/\p=qdf h args/\s=s0 (args.map (qO E h))/\(execOp a.eval o).run P w = .ok (.enter g vs.toArray) w/\RepV ρ H args vs/\IdsLtL top args
 | .any p =>∃ b:Bool,(b=true->p)/\(execOp a.eval o).run P w = .ok (.value (.bool b)) w
 | .into g args =>∃ vs,(execOp a.eval o).run P w = .ok (.enter g vs.toArray) w/\RepV ρ H args vs/\IdsLtL top args
 | .yld id args =>∃ vs,RepV ρ H args vs/\IdsLtL top args/\vs.length=args.length/\top id /\ ∀ rec,w.heap[(ρ id).b]?=some (.loop rec)->vs.length=rec.params.size ->
  (execOp a.eval o).run P w = .ok (.round (ρ id).b rec.fn ((rec.params.zip vs.toArray).foldl (fun tmps (t,a)=>tmps.setIfInBounds t a) rec.tmps) rec.assign rec.body) w
 | .mkb p c n=>p () -> ∃ arr t fr cap vs,vs.length=n.v/\n.v<=cap/\(execOp a.eval o).run P w = .ok (.value (.slice (some ⟨w.heap.size,0,none⟩) n.v cap)) (w.drew.alloc (.cells arr t fr))/\cap<=arr.size /\
  (∀ ρ',Rep ρ' H c vs)/\(∀ (j:Nat) v,vs[j]?=some v->arr[j]?=some v)/\(qah c=false->fr=(0,0))/\IdsLt top c
 | .app es bytes s x =>∃ (vs vx:Value) (t u e f:TypeId) (te:TI) (ad:Array TypeId),TyOk P e te/\es=te.size/\bytes=te.bytes/\0<te.bytes/\P.underlying t=some (.slice e)/\P.underlying u=some (.slice f) /\
  (execOp a.eval o).run P w=((Builtin.append_ (#[t,u]++ad) o.type #[vs,vx]).run P w).andThen (fun v w' =>.ok (.value v) w') /\
  Den ρ H s vs/\Den ρ H x vx/\IdsLt top s/\IdsLt top x
end
section
variable {P:Program} {E:Env} (hE:EnvOk P E) {ρ:Rho} {H:Snap} {ts:List SVal} {h:Heap} {top:Top} {a:Act} {w:World} {o:Oper}
theorem q9 : ∀ {h:Heap} {id:Nat} {c:SVal},look h id=c->c ≠ .junk->(id,c) ∈ h
 | [],id,c,hl,hc=>by simp[look]at hl;exact absurd hl.symm hc
 | (i,v) :: r,id,c,hl,hc=>by
   simp only[look]at hl
   split at hl
   · rename_i hb
     have:=Nat.eq_of_beq_eq_true hb
     subst this;subst hl;exact List.mem_cons_self ..
   · exact List.mem_cons_of_mem _ (q9 hl hc)
theorem Rel.lies (R:Rel E ρ H ts h top a w) {id:Nat} (hc:look h id ≠ .junk):qat ρ id (look h id) \/ ∃ arr t vs,Lies ρ H w id (look h id) arr t vs :=
 R.heap.1 _ _ (q9 rfl hc)
theorem Rel.lids (R:Rel E ρ H ts h top a w) (id:Nat):IdsLt top (look h id):=by
 by_cases hc:look h id = .junk
 ·rw[hc];trivial
 ·exact(R.hids _ _ (q9 rfl hc)).2
theorem qjt (R:Rel E ρ H ts h top a w) (x:Operand) (hop:o.op = .move x\/o.op = .assign x):q8 P ρ H top a w o (evl E ts x):=by
 refine⟨a.eval x,?_,R.den1 x,R.ids1 x⟩
 rcases hop with h|h<;>simp[execOp,h]
include hE
theorem qn0 (R:Rel E ρ H ts h top a w) {t:TypeId} {ti:TI} (ht:E.T t=some ti) (hop:o.op = .alloc t):qdo P ρ H top a w o ti.zero fun id =>.ptr id (.l 0):=by
 have hty:=hE.ty t ti ht
 obtain⟨z,hz,hs,hd⟩:=hty.run_zero w
 refine⟨.pointer (some ⟨w.heap.size,0,none⟩),z.cells,t,z.cells.toList,?_,(hd ρ H).2,IdsLt.mono (fun _ h=>h.elim) _ hty.zid,rfl,?_⟩
 ·simp[execOp,hop,Instr.alloc,newVar,newRow,hz]
 ·intro ρ' id e
  refine⟨?_,rfl⟩
  simp only[Den,Rep,e,SN.v]
omit hE in
theorem qn1 (R:Rel E ρ H ts h top a w) {t:TypeId} {x:Operand} (hc:qz (evl E ts x)=true) (h1:((evl E ts x).isOne || (evl E ts x).isAgg)=true) (hop:o.op = .box t x) :
  qdo P ρ H top a w o (evl E ts x) fun id =>.ptr id (.l 0):=by
 have hd:=R.den1 x
 refine⟨.pointer (some ⟨w.heap.size,0,none⟩),(a.eval x).cells,t,(a.eval x).cells.toList,?_,hd.cells hc h1,R.ids1 x,rfl,?_⟩
 ·simp[execOp,hop,Instr.box,newVar,newRow]
 ·intro ρ' id e
  refine⟨?_,rfl⟩
  simp only[Den,Rep,e,SN.v]
omit hE in
theorem qb8 {c:SVal} {vs:List Value} {o m:Nat} (hr:Rep ρ H c vs) (hw:qaA o m c=true) (hm:0<m):o+m<=vs.length:=by
 cases c<;>simp only[qaA]at hw
 case row k n xs=>simp only[Rep]at hr;rw[hr.2];simp;have:=Nat.le_of_ble_eq_true hw;omega
 case agg l =>
  have:=Nat.le_of_ble_eq_true hw
  simp only[Rep]at hr
  have:=RepC.len l hr (by omega)
  omega
 case lst l =>
  have:=Nat.le_of_ble_eq_true hw
  simp only[Rep]at hr
  have e : ∀ (l:List SVal) {vs:List Value},RepV ρ H l vs->l.length=vs.length:=by
   intro l
   induction l with
   | nil=>intro vs h;simp only[RepV]at h;subst h;rfl
   | cons s l ih=>intro vs h;obtain⟨v,ws,rfl,_,h2⟩:=RepV_cons.1 h;simp[ih h2]
  have:=e l hr.1
  omega
 case seq=>simp at hw
 case sab=>simp at hw
 case lck=>simp at hw
 case lsr=>simp at hw
 case junk=>simp at hw
 case fr=>simp[Rep]at hr
 case fra=>simp[Rep]at hr
 case frp=>simp[Rep]at hr
 case ab p =>
  have:=Nat.le_of_ble_eq_true hw
  simp only[Rep]at hr
  obtain⟨xs,rfl,h⟩:=hr
  simpa[Pay.len h]using this
 all_goals
  simp only[Bool.and_eq_true]at hw
  have h1:=Nat.eq_of_beq_eq_true hw.1
  have h2:=Nat.eq_of_beq_eq_true hw.2
  have:vs.length=1:=by
   first
    | exact Rep.len _ hr (by simp[SVal.sz])
    | (simp only[Rep]at hr;obtain⟨ws,rfl,_⟩:=hr;rfl)
  omega
theorem qju {t:TypeId} {ti:TI} (ht:E.T t=some ti) {b o':Nat} {c:SVal} {vs:List Value} {off:SN} {x:Operand} (hr:Rep ρ H c vs) (hi:IdsLt top c)
  (hc : ∀ (j:Nat) v,vs[j]?=some v->w.cell? ⟨b,o'+j,none⟩=some v) (hop:o.op = .load t x) (hx:a.eval x = .pointer (some ⟨b,o'+off.v,none⟩)) :
  qM P E ρ H h top a w o (rd E ti c off):=by
 have hty:=hE.ty t ti ht
 have key:off.v+ti.size<=vs.length -> ∀ s:SVal,(∀ v,(ti.agg=true->v = .agg ((vs.drop off.v).take ti.size).toArray)->(ti.agg=false->vs[off.v]?=some v)->Den ρ H s v)->IdsLt top s->q8 P ρ H top a w o s:=by
  intro hl s hs hs2
  obtain⟨v,h1,h2,h3⟩:=qeC (P:=P) hty hc hl
  refine⟨v,?_,hs v h2 h3,hs2⟩
  simp[execOp,hop,hx,Instr.loadAt,Instr.sureAddr,h1]
 have hlit : ∀ o1,off = .l o1->off.v+ti.size<=vs.length->q8 P ρ H top a w o (qL E o1 ti.size ti.agg c):=by
  intro o1 e hl
  subst e
  exact key hl _ (fun v h1 h2=>qdj hE.om c o1 ti.size ti.agg hr hl (hty.one) v h1 h2) (qbv c _ _ _ hi)
 have hsub : ∀ k xs,vs=xs.map (Value.int k)->off.v+ti.size<=vs.length->ti.agg=true->q8 P ρ H top a w o (.row k ti.size (E.Ω.sub xs off.v ti.size)):=by
  intro k xs e hl ha
  refine key hl _ (fun v h1 _=>⟨?_,?_⟩) trivial
  ·rw[hE.om];subst e;simp[Om.real]at hl ⊢;omega
  ·rw[h1 ha,hE.om,e];simp[Om.real]
 have hat : ∀ k xs,vs=xs.map (Value.int k)->off.v+ti.size<=vs.length->ti.agg=false->q8 P ρ H top a w o (.int k (E.Ω.at' xs off.v)):=by
  intro k xs e hl ha
  refine key hl _ (fun v _ h2 => ?_) trivial
  have h2:=h2 ha
  simp only[Den,Rep]
  rw[hE.om]
  subst e
  rw[List.getElem?_map]at h2
  cases hx:xs[off.v]? with
  | none=>simp[hx]at h2
  | some x=>simp[hx]at h2;simp[Om.real,List.getD,hx,h2]
 have hsab : ∀ q:PayL,c = .sab q->(ti.agg && Nat.beq ti.size q.es)=true->(off.v % q.es=0/\off.v / q.es<q.len)->q8 P ρ H top a w o (.ab (atO E q (off.v / q.es))):=by
  intro q e hb hp
  subst e
  simp only[Bool.and_eq_true]at hb
  have he:=Nat.eq_of_beq_eq_true hb.2
  simp only[Rep]at hr
  obtain⟨ys,rfl,hq⟩:=hr
  have hpos:=q.es_pos
  have hdv:off.v / q.es*q.es=off.v:=by
   have:=Nat.div_add_mod off.v q.es
   rw[hp.1,Nat.add_zero,Nat.mul_comm]at this
   exact this
  have hle:off.v+ti.size<=ys.length:=by
   have h1:(off.v / q.es+1)*q.es<=q.len*q.es:=Nat.mul_le_mul_right _ hp.2
   rw[Nat.add_mul,hdv,Nat.one_mul]at h1
   rw[hq.1,he]
   exact h1
  refine key (by rw[List.length_map];exact hle) _ (fun v h1 _ => ?_) trivial
  have hv:=h1 hb.1
  have hat:atO E q (off.v / q.es)=q.get (off.v / q.es):=by cases q<;>(unfold atO;rw[hE.om];rfl)
  rw[hat]
  simp only[Den]
  refine⟨(ys.drop off.v).take q.es,by have:=hq.2 _ hp.2;rw[hdv]at this;exact this,?_⟩
  rw[hv,he,PayL.get_k,List.map_take,List.map_drop]
 unfold rd
 split
 ·rename_i o1
  split
  ·rename_i k xs
   intro hp
   simp only[Rep]at hr
   exact hlit o1 rfl (by subst hr;simpa[SN.v]using hp)
  ·rename_i q
   split
   ·rename_i hb
    intro hp
    exact hsab q rfl hb hp
   ·trivial
  ·split
   ·rename_i hw
    exact hlit o1 rfl (qb8 hr hw hty.pos)
   ·trivial
 ·rename_i o1
  split
  ·rename_i k n xs
   simp only[Rep]at hr
   split
   ·rename_i ha
    intro hp
    exact hsub k xs hr.2 (by rw[hr.2];simp only[SN.v,List.length_map];rw[hr.1];exact hp) ha
   ·rename_i ha
    intro hp
    exact hat k xs hr.2 (by rw[hr.2];simp only[SN.v,List.length_map];rw[hr.1];exact hp) ha
  ·rename_i k xs
   simp only[Rep]at hr
   split
   ·rename_i ha
    intro hp
    exact hsub k xs hr (by rw[hr];simpa[SN.v]using hp) ha
   ·rename_i ha
    intro hp
    exact hat k xs hr (by rw[hr];simpa[SN.v]using hp) ha
  ·rename_i q
   split
   ·rename_i hb
    intro hp
    exact hsab q rfl hb hp
   ·trivial
  ·trivial
omit hE in
theorem qjv {vs us:List Value} {off j:Nat} {v:Value} (hl:off+us.length<=vs.length) (hj:(vs.take off++us++vs.drop (off+us.length))[j]?=some v) :
  if off<=j/\j<off+us.length then us[j-off]?=some v else vs[j]?=some v:=by
 have hto:(vs.take off).length=off:=by simp;omega
 split
 ·rename_i h1
  rw[List.append_assoc,List.getElem?_append_right (by omega),hto,List.getElem?_append_left (by omega)]at hj
  exact hj
 ·rename_i h1
  by_cases h2:j<off
  ·rw[List.append_assoc,List.getElem?_append_left (by omega),List.getElem?_take,if_pos h2]at hj
   exact hj
  ·rw[List.append_assoc,List.getElem?_append_right (by omega),hto,List.getElem?_append_right (by omega),List.getElem?_drop]at hj
   rw[<- hj];congr 1;omega
theorem qn2 {t:TypeId} {ti:TI} (ht:E.T t=some ti) {id:Nat} {c c' s:SVal} {arr:Array Value} {te:Tf} {vs:List Value} {off:Nat} {x y:Operand} {u:Value}
  (hlk:qah c=false) (l:Lies ρ H w id c arr te vs) (hm:(id,c) ∈ h) (hu:Rep ρ H s u.cells.toList) (hcl:qz s=true) (hs:u.cells.size=ti.size) (hl:off+ti.size<=vs.length)
  (hc':Rep ρ H c' (vs.take off++u.cells.toList++vs.drop (off+ti.size))) (hi:IdsLt top c')
  (hop:o.op = .store t x y) (hx:a.eval x = .pointer (some ⟨(ρ id).b,(ρ id).o+off,none⟩)) (hy:a.eval y=u):qeE P ρ H h top a w o id c':=by
 have hty:=hE.ty t ti ht
 have hroom:=l.room
 have hfits:=l.fits
 have husz:u.cells.toList.length=ti.size:=by simpa using hs
 obtain⟨w',arr',h1,h2,h3,h4,h5,h6,h7⟩:=qnZ (P:=P) hty (o:=(ρ id).o+off) (l.blk0 hlk) (Rep.ones s hcl hu) hs (by omega)
 refine⟨w',?_,⟨c,hm⟩,hi,h6,h7,h5,arr',(te.1,(0,0)),_,⟨l.real,h2,l.own,hc',by omega,?_,?_,fun _=>rfl⟩⟩
 ·simp[execOp,hop,hx,hy,Instr.storeAt,Instr.sureAddr,h1]
 ·simp only[List.length_append,List.length_take,List.length_drop,husz];omega
 ·intro j v hj
  rw[<- husz]at hj
  have hg:=qjv (by rw[husz];exact hl) hj
  rw[h4]
  split at hg
  ·rename_i g
   rw[if_pos (by omega),show(ρ id).o+j-((ρ id).o+off)=j-off by omega]
   exact hg
  ·rename_i g
   rw[if_neg (by omega)]
   exact l.cells j v hg
theorem qn3 (R:Rel E ρ H ts h top a w) {t:TypeId} {ti:TI} (ht:E.T t=some ti) {id:Nat} {off:SN} {x y:Operand} (hop:o.op = .store t x y)
  (hx:Den ρ H (.ptr id off) (a.eval x)):qM P E ρ H h top a w o (wr E ti id (look h id) off (evl E ts y)):=by
 have hty:=hE.ty t ti ht
 have hd:=R.den1 y
 have hyi:=R.ids1 y
 generalize hs:evl E ts y=s at hd hyi
 generalize hu:a.eval y=u at hd
 simp only[Den,Rep,List.cons.injEq,and_true]at hx
 unfold wr
 split
 ·trivial
 ·rename_i hw
  simp only[Bool.and_eq_true]at hw
  obtain⟨hsz0,ho,hcl⟩:=hw
  have hsz:=Nat.eq_of_beq_eq_true hsz0
  clear hsz0
  have hrep:=hd.cells hcl ho
  have hul:u.cells.toList.length=ti.size:=by
   rw[<- hsz]
   cases s<;>simp only[SVal.isOne,SVal.isAgg,Bool.or_self,Bool.false_eq_true]at ho<;>simp only[vsz]
   case row=>simp only[Rep]at hrep;rw[hrep.2];simpa using hrep.1
   case agg l =>
    simp only[Rep]at hrep
    have:=hty.pos
    simp only[vsz]at hsz
    exact RepC.len l hrep (by omega)
   case ab p=>exact Rep.len _ hrep (by simp only[SVal.sz];have:=p.pos;omega)
   all_goals exact Rep.len _ hrep (by simp[SVal.sz])
  have hus:u.cells.size=ti.size:=by simpa using hul
  have main : ∀ c,look h id=c->c ≠ .junk->qah c=false -> ∀ c',(∀ vs,Rep ρ H c vs->off.v+ti.size<=vs.length/\Rep ρ H c' (vs.take off.v++u.cells.toList++vs.drop (off.v+ti.size)))->IdsLt top c'->qeE P ρ H h top a w o id c':=by
   intro c hc hj hlc c' hput hi
   rcases R.lies (id:=id) (by rw[hc];exact hj)with hgh|⟨arr,te,vs,l⟩
   ·obtain⟨_,_,k,hk⟩:=hgh
    rw[hc]at hk
    subst hk
    have h1:=(hput [] qjk).1
    have h2:=hty.pos
    simp only[List.length_nil]at h1
    omega
   rw[hc]at l
   have hp:=hput vs l.rep
   exact qn2 hE ht hlc l (by have:=q9 hc hj;exact this) hrep hcl hus hp.1 hp.2 hi hop hx hu
  have hli:=R.lids id
  split
  ·rename_i o1
   split
   ·rename_i k xs hlk
    split
    ·trivial
    ·rename_i hnj
     intro hp
     refine main _ hlk (by simp) rfl _ (fun vs hr => ?_) (qdn _ _ _ _ trivial hyi)
     have hr':=hr
     simp only[Rep]at hr'
     have hlen:o1+ti.size<=vs.length:=by subst hr';simpa using hp
     refine⟨hlen,qez hE.om _ o1 ti.size s hr hrep ho hul hty.pos hlen ?_⟩
     have : ∀ z:SVal,qG E o1 ti.size s (.seq k xs)=z->qz z=true:=by
      intro z hz
      cases s<;>simp only[qG]at hz hnj<;>(try split at hz)<;>subst hz<;>first|rfl|(exfalso;simp_all)
     exact this _ rfl
   ·rename_i c hnseq
    split
    ·rename_i hw
     simp only[Bool.and_eq_true]at hw
     refine main _ rfl (fun e=>by rw[e]at hw;simp[qaA]at hw) (by cases hlc:look h id<;>first|rfl|(rw[hlc]at hw;simp[qaA]at hw)) _ (fun vs hr => ?_) (qdn _ _ _ _ hli hyi)
     have hlen:=qb8 hr hw.1 hty.pos
     exact⟨hlen,qez hE.om _ o1 ti.size s hr hrep ho hul hty.pos hlen hw.2⟩
    ·trivial
  ·rename_i o1
   split
   ·rename_i k n xs hlk
    split
    ·rename_i k' m ys
     split
     ·rename_i hk
      have hk:=keq_iff.1 hk
      subst hk
      intro hp
      refine main _ hlk (by simp) rfl _ (fun vs hr => ?_) trivial
      simp only[Rep]at hr hrep
      obtain⟨hn,rfl⟩:=hr
      have hm:m=ti.size:=by rw[<- hsz];rfl
      have hyl:ys.length=ti.size:=by rw[<- hm];exact hrep.1
      simp only[SN.v,List.length_map]
      refine⟨by omega,?_,?_⟩
      ·rw[qgZ hE.om _ _ _ (by omega)];exact hn
      ·rw[qdk hE.om,hrep.2,hyl]
     ·trivial
    ·rename_i k' x1
     split
     ·rename_i hk
      have hk:=keq_iff.1 hk
      subst hk
      intro hp
      refine main _ hlk (by simp) rfl _ (fun vs hr => ?_) trivial
      simp only[Rep]at hr hrep
      obtain⟨hn,rfl⟩:=hr
      have hm:1=ti.size:=by rw[<- hsz];rfl
      rw[<- hm]
      simp only[SN.v,List.length_map]
      refine⟨by omega,?_,?_⟩
      ·rw[hE.om];simpa[Om.real]using hn
      ·rw[qbH hE.om _ _ _ _ (by omega),hrep]
     ·trivial
    ·rename_i k' x1
     split
     ·rename_i hk
      have hk:=keq_iff.1 hk
      subst hk
      intro hp
      refine main _ hlk (by simp) rfl _ (fun vs hr => ?_) trivial
      simp only[Rep]at hr hrep
      obtain⟨hn,rfl⟩:=hr
      have hm:1=ti.size:=by rw[<- hsz];rfl
      rw[<- hm]
      simp only[SN.v,List.length_map]
      refine⟨by omega,?_,?_⟩
      ·rw[hE.om];simpa[Om.real]using hn
      ·rw[qbH hE.om _ _ _ _ (by omega),hrep]
     ·trivial
    ·trivial
   ·rename_i k xs hlk
    split
    ·rename_i k' m ys
     split
     ·rename_i hk
      have hk:=keq_iff.1 hk
      subst hk
      intro hp
      refine main _ hlk (by simp) rfl _ (fun vs hr => ?_) trivial
      simp only[Rep]at hr hrep
      subst hr
      have hm:m=ti.size:=by rw[<- hsz];rfl
      have hyl:ys.length=ti.size:=by rw[<- hm];exact hrep.1
      simp only[SN.v,List.length_map]
      refine⟨by omega,?_⟩
      simp only[Rep]
      rw[qdk hE.om,hrep.2,hyl]
     ·trivial
    ·rename_i k' x1
     split
     ·rename_i hk
      have hk:=keq_iff.1 hk
      subst hk
      intro hp
      refine main _ hlk (by simp) rfl _ (fun vs hr => ?_) trivial
      simp only[Rep]at hr hrep
      subst hr
      have hm:1=ti.size:=by rw[<- hsz];rfl
      rw[<- hm]
      simp only[SN.v,List.length_map]
      refine⟨by omega,?_⟩
      simp only[Rep]
      rw[qbH hE.om _ _ _ _ (by omega),hrep]
     ·trivial
    ·rename_i k' x1
     split
     ·rename_i hk
      have hk:=keq_iff.1 hk
      subst hk
      intro hp
      refine main _ hlk (by simp) rfl _ (fun vs hr => ?_) trivial
      simp only[Rep]at hr hrep
      subst hr
      have hm:1=ti.size:=by rw[<- hsz];rfl
      rw[<- hm]
      simp only[SN.v,List.length_map]
      refine⟨by omega,?_⟩
      simp only[Rep]
      rw[qbH hE.om _ _ _ _ (by omega),hrep]
     ·trivial
    ·trivial
   ·trivial
end
end Go.Sx
end
section
namespace Go.Sx
section
variable {P:Program} {E:Env} (hE:EnvOk P E) {ρ:Rho} {H:Snap} {ts:List SVal} {h:Heap} {top:Top} {a:Act} {w:World} {o:Oper}
theorem qeF {s:SVal} {k:IntKind} {n:Int} {v:Value} (hs:intV s=some (k,n)) (hd:Den ρ H s v):v = .int k n:=by
 cases s<;>simp[intV]at hs<;>(obtain⟨rfl,rfl⟩:=hs;simpa[Den,Rep]using hd)
theorem qjw {s:SVal} {b:Bool} {v:Value} (hs:qeu s=some b) (hd:Den ρ H s v):v = .bool b:=by
 cases s<;>simp[qeu]at hs<;>(subst hs;simpa[Den,Rep]using hd)
theorem qg0 (op:BinOp) (t:TypeId) (x y:Operand) (k k':IntKind) (n m:Int) (w:World):(eqGuard op t x y (.int k n) (.int k' m)).run P w = .ok () w:=by
 cases op<;>simp[eqGuard]
theorem qn4 {op:BinOp} (hc:BinOp.isCmp op=true) (t:TypeId) (k:IntKind) (n m:Int) (w:World):(Go.binOp op t (.int k n) (.int k m)).run P w = .ok (.bool (cmpL op n m)) w:=by
 cases op<;>simp[BinOp.isCmp]at hc<;>simp[Go.binOp,Op.intCmp,cmpL]
theorem qn5 {op:BinOp} (hc:qbz op=true) (t:TypeId) (k k':IntKind) (n m:Int) (hm:0<=m) (w:World):(Go.binOp op t (.int k n) (.int k' m)).run P w = .ok (.int k (binL op k n m)) w:=by
 have : ¬ m<0:=by omega
 cases op<;>simp[qbz]at hc<;>simp[Go.binOp,Op.shift,binL,this]
theorem qn6 {op:BinOp} (hc:qcs op=true) (hs:qbz op=false) (t:TypeId) (k:IntKind) (n m:Int) (hm:qcr op=true->m ≠ 0) (w:World) :
  (Go.binOp op t (.int k n) (.int k m)).run P w = .ok (.int k (binL op k n m)) w:=by
 cases op<;>simp[qcs,qbz]at hc hs<;>simp[Go.binOp,Op.intArith,Op.intDiv,Op.intBits,binL]
 all_goals simp[qcr]at hm;simp[hm]
include hE
theorem qn7 (R:Rel E ρ H ts h top a w) {op:BinOp} {t t':TypeId} {x y:Operand} (hop:o.op = .binOp op t x y t'):qM P E ρ H h top a w o (binS E op t (evl E ts x) (evl E ts y)):=by
 have hx:=R.den1 x
 have hy:=R.den1 y
 generalize hsx:evl E ts x=sx at hx
 generalize hsy:evl E ts y=sy at hy
 generalize hux:a.eval x=ux at hx
 generalize huy:a.eval y=uy at hy
 have hrun:(execOp a.eval o).run P w=((eqGuard op t x y ux uy).run P w).andThen fun _ w'=>((Go.binOp op t ux uy).run P w').andThen fun v w'' =>.ok (.value v) w'':=by
  simp[execOp,hop,hux,huy]
 have cmp : ∀ k n m,ux = .int k n->uy = .int k m->BinOp.isCmp op=true->(execOp a.eval o).run P w = .ok (.value (.bool (cmpL op n m))) w:=by
  intro k n m h1 h2 hc
  rw[hrun,h1,h2,qg0];simp[qn4 hc]
 have sh : ∀ k k' n m,ux = .int k n->uy = .int k' m->qbz op=true->0<=m->(execOp a.eval o).run P w = .ok (.value (.int k (binL op k n m))) w:=by
  intro k k' n m h1 h2 hc hm
  rw[hrun,h1,h2,qg0];simp[qn5 hc _ _ _ _ _ hm]
 have ar : ∀ k n m,ux = .int k n->uy = .int k m->qcs op=true->qbz op=false->(qcr op=true->m ≠ 0)->(execOp a.eval o).run P w = .ok (.value (.int k (binL op k n m))) w:=by
  intro k n m h1 h2 hc hs hm
  rw[hrun,h1,h2,qg0];simp[qn6 hc hs _ _ _ _ hm]
 have eΩ:E.Ω.bin=binL:=by rw[hE.om];rfl
 have eΩc:E.Ω.cmp=cmpL:=by rw[hE.om];rfl
 have setI : ∀ k z,(execOp a.eval o).run P w = .ok (.value (.int k z)) w->q8 P ρ H top a w o (.int k z):=fun k z hr=>⟨_,hr,by simp[Den,Rep],trivial⟩
 have setL : ∀ k z,(execOp a.eval o).run P w = .ok (.value (.int k z)) w->q8 P ρ H top a w o (.lit k z):=fun k z hr=>⟨_,hr,by simp[Den,Rep],trivial⟩
 have setS : ∀ b,(execOp a.eval o).run P w = .ok (.value (.bool b)) w->q8 P ρ H top a w o (.bs b):=fun b hr=>⟨_,hr,by simp[Den,Rep],trivial⟩
 have setB : ∀ b,(execOp a.eval o).run P w = .ok (.value (.bool b)) w->q8 P ρ H top a w o (.bl b):=fun b hr=>⟨_,hr,by simp[Den,Rep],trivial⟩
 unfold binS
 split
 ·rename_i k n k' m
  simp only[Den,Rep,List.cons.injEq,and_true]at hx hy
  split
  ·rename_i hsh
   split
   ·rename_i h0
    exact setL _ _ (sh k k' n m hx hy hsh (by simpa using h0))
   ·trivial
  ·rename_i hsh
   split
   ·rename_i hk
    have hk:=keq_iff.1 hk
    subst hk
    split
    ·rename_i hc
     exact setB _ (cmp k n m hx hy hc)
    ·rename_i hc
     split
     ·trivial
     ·rename_i hd
      split
      ·rename_i ha
       exact setL _ _ (ar k n m hx hy ha hsh (by intro h1 h2;simp[h1,h2]at hd))
      ·trivial
   ·trivial
 ·split
  ·rename_i k n k' m h1 h2
   have hx:=qeF h1 hx
   have hy':=qeF h2 hy
   rw[eΩ,eΩc]
   split
   ·rename_i hsh
    split
    ·split
     ·rename_i h0
      exact setI _ _ (sh k k' n m hx hy' hsh (by simpa using h0))
     ·trivial
    ·intro h0
     exact setI _ _ (sh k k' n m hx hy' hsh h0)
   ·rename_i hsh
    split
    ·trivial
    ·rename_i hk
     have hk:=keq_iff.1 hk
     subst hk
     split
     ·rename_i hc
      exact setS _ (cmp k n m hx hy' hc)
     ·rename_i hc
      split
      ·rename_i hdv
       have ha:qcs op=true:=by cases op<;>simp[qcr]at hdv<;>rfl
       split
       ·rename_i k2 b'
        split
        ·trivial
        ·rename_i hb
         simp only[intV,Option.some.injEq,Prod.mk.injEq]at h2
         exact setI _ _ (ar k n m hx hy' ha hsh (by intro _;rw[<- h2.2];simpa using hb))
       ·intro hb
        exact setI _ _ (ar k n m hx hy' ha hsh (by intro _;exact hb))
      ·rename_i hdv
       split
       ·rename_i ha
        exact setI _ _ (ar k n m hx hy' ha hsh (by intro h;rw[h]at hdv;cases hdv))
       ·trivial
  ·have rows : ∀ k n xs ys,Den ρ H (.row k n xs) ux->Den ρ H (.row k n ys) uy->qct E t=true->qcu E t=n->(Op.equal t ux uy).run P w = .ok (xs == ys) w /\
     ∀ op,(op = .eql\/op = .neq)->(eqGuard op t x y ux uy).run P w = .ok () w:=by
    intro k n xs ys h1 h2 h3 h4
    simp only[Den]at h1 h2
    obtain⟨l1,rfl⟩:=h1
    obtain⟨l2,rfl⟩:=h2
    unfold qct at h3
    unfold qcu at h4
    split at h3<;>try (cases h3;done)
    rename_i ti ht
    rw[ht]at h4
    split at h3<;>try (cases h3;done)
    rename_i n' e hd
    simp only[hd]at h4
    subst h4
    split at h3<;>try (cases h3;done)
    rename_i te hte
    split at h3<;>try (cases h3;done)
    rename_i ki hki
    have hty:=hE.ty t ti ht
    have hty2:=hE.ty e te hte
    obtain⟨d,hu,hm⟩:=hty.under
    obtain⟨d2,hu2,hm2⟩:=hty2.under
    simp only[hd,TDm]at hm
    simp only[hki,TDm]at hm2
    subst hm
    subst hm2
    obtain⟨i,z,hi,hsz,_⟩:=hty2.info
    have hag:te.agg=false:=by
     have:=hty2.agg
     rcases Bool.eq_false_or_eq_true te.agg with h|h
     ·have:=this.1 h;simp[hki]at this
     ·exact h
    have hc:P.cellsOf e=1:=by simp[Program.cellsOf,hi,hsz,hty2.one hag]
    have hpart : ∀ (zs:List Int) (j:Nat) (hj:j<zs.length) (w:World),(part e (zs.map (Value.int k)).toArray j).run P w = .ok (.int k zs[j]) w:=by
     intro zs j hj w
     simp only[part,Sem.run_bind,hty2.run_isAgg,Result.andThen_ok,hag,Bool.false_eq_true,if_false]
     simp[hj]
    have hitems : ∀ (is:List Nat),(∀ j ∈ is,j<n') -> ∀ w:World,(Op.eqItems 9999 e 1 (xs.map (Value.int k)).toArray (ys.map (Value.int k)).toArray is).run P w = .ok (is.all fun j=>xs.getD j 0 == ys.getD j 0) w:=by
     intro is
     induction is with
     | nil=>intro _ w;simp[Op.eqItems]
     | cons j is ih =>
       intro hj w
       have hj0:=hj j (List.mem_cons_self ..)
       have e1:xs.getD j 0=xs[j]'(by omega):=by simp[List.getD,List.getElem?_eq_getElem (show j<xs.length by omega)]
       have e2:ys.getD j 0=ys[j]'(by omega):=by simp[List.getD,List.getElem?_eq_getElem (show j<ys.length by omega)]
       simp only[Op.eqItems,Nat.mul_one,Sem.run_bind,hpart xs j (by omega),hpart ys j (by omega),Result.andThen_ok,run_equalIn_int w 9998 e k ki _ _ hu2,List.all_cons,e1,e2]
       have:=ih (fun j hj'=>hj j (List.mem_cons_of_mem _ hj')) w
       cases hb:(xs[j]'(by omega) == ys[j]'(by omega))
       · simp
       · simp[this]
    refine⟨?_,fun op hop => ?_⟩
    ·show(Op.equalIn (9999+1) t _ _).run P w=_
     rw[run_equalIn_array w 9999 _ _ hu hi,hc,hitems (List.range n') (by simp) w]
     congr 1
     rw[Bool.eq_iff_iff,List.all_eq_true]
     simp only[List.mem_range,beq_iff_eq]
     constructor
     ·intro hall
      refine List.ext_getElem (by omega) fun j g1 g2 => ?_
      have:=hall j (by omega)
      simpa[List.getD,List.getElem?_eq_getElem g1,List.getElem?_eq_getElem g2]using this
     ·rintro rfl j _;rfl
    ·have hg:P.eqGuardType P.depth t=false:=by
      have hdep : ∃ m,P.depth=m+2:=⟨_,rfl⟩
      obtain⟨m,hm⟩:=hdep
      rw[hm]
      simp only[Program.eqGuardType,hu,hu2]
     rcases hop with rfl|rfl<;>simp[eqGuard,hg]
   split
   ·rename_i k n xs k' n' ys _ _
    split
    ·rename_i hc
     simp only[Bool.and_eq_true]at hc
     obtain⟨h1,h2,h3,h4⟩:=hc
     have h2:=keq_iff.1 h2
     have h3:=Nat.eq_of_beq_eq_true h3
     have h4:=Nat.eq_of_beq_eq_true h4
     subst h2;subst h3
     obtain⟨he,hg⟩:=rows k n xs ys hx hy h1 h4
     refine setS _ ?_
     rw[hrun,hg _ (.inl rfl),hE.om]
     simp only[Den]at hx hy
     obtain⟨_,rfl⟩:=hx
     obtain⟨_,rfl⟩:=hy
     simp[Go.binOp,he,Om.real]
    ·trivial
   ·rename_i k n xs k' n' ys _ _
    split
    ·rename_i hc
     simp only[Bool.and_eq_true]at hc
     obtain⟨h1,h2,h3,h4⟩:=hc
     have h2:=keq_iff.1 h2
     have h3:=Nat.eq_of_beq_eq_true h3
     have h4:=Nat.eq_of_beq_eq_true h4
     subst h2;subst h3
     obtain⟨he,hg⟩:=rows k n xs ys hx hy h1 h4
     refine setS _ ?_
     rw[hrun,hg _ (.inr rfl),hE.om]
     simp only[Den]at hx hy
     obtain⟨_,rfl⟩:=hx
     obtain⟨_,rfl⟩:=hy
     simp[Go.binOp,he,Om.real]
    ·trivial
   ·rename_i x k' n' ys _ _
    split
    ·rename_i hc
     simp only[Bool.and_eq_true]at hc
     obtain⟨h1,h2,h3,h4⟩:=hc
     have h2:=keq_iff.1 h2
     have h3:=Nat.eq_of_beq_eq_true h3
     have h4:=Nat.eq_of_beq_eq_true h4
     subst h2;subst h3
     simp only[Den]at hx
     obtain⟨xs,h5,hxe⟩:=hx
     have hx:Den ρ H (.row .i64 16 xs) ux:=⟨h5.1,hxe⟩
     obtain⟨he,hg⟩:=rows .i64 16 xs ys hx hy h1 h4
     refine setS _ ?_
     rw[hrun,hg _ (.inl rfl),hE.om]
     simp only[Den]at hx hy
     obtain⟨_,rfl⟩:=hx
     obtain⟨_,rfl⟩:=hy
     rw[qnV h5]at he
     simp[Go.binOp,he,Om.real]
    ·trivial
   ·rename_i x y _ _
    split
    ·rename_i hc
     simp only[Bool.and_eq_true]at hc
     obtain⟨h1,h4⟩:=hc
     have h4:=Nat.eq_of_beq_eq_true h4
     simp only[Den]at hx hy
     obtain⟨xs,h5,hxe⟩:=hx
     obtain⟨ys,h6,hye⟩:=hy
     have hx:Den ρ H (.row .i64 16 xs) ux:=⟨h5.1,hxe⟩
     have hy:Den ρ H (.row .i64 16 ys) uy:=⟨h6.1,hye⟩
     obtain⟨he,hg⟩:=rows .i64 16 xs ys hx hy h1 h4
     refine setS _ ?_
     rw[hrun,hg _ (.inl rfl),hE.om]
     simp only[Den]at hx hy
     obtain⟨_,rfl⟩:=hx
     obtain⟨_,rfl⟩:=hy
     rw[qnW h5 h6]at he
     simp[Go.binOp,he,Om.real]
    ·trivial
   ·rename_i k xs _ _
    split
    ·rename_i hpt
     unfold slTy at hpt
     split at hpt<;>try (cases hpt;done)
     rename_i ti ht
     split at hpt<;>try (cases hpt;done)
     rename_i e hd
     obtain⟨d,hu,hm⟩:=(hE.ty t ti ht).under
     simp only[hd,TDm]at hm
     subst hm
     simp only[Den,Rep,List.cons.injEq,and_true]at hx hy
     obtain⟨rfl,_⟩:=hy
     obtain⟨_,rfl,ad,c,rfl,hle,hro⟩:=hx
     refine⟨ad.isNone,fun hn => ?_,?_⟩
     ·cases ad with
      | some ad=>cases hn
      | none =>
        cases xs with
        | nil=>rfl
        | cons x xs=>obtain⟨_,_,e,_⟩:=hro 0 x rfl;cases e
     ·rw[hrun]
      have hq:(Op.equal t (.slice ad xs.length c) (.slice none 0 0)).run P w = .ok ad.isNone w:=by
       have hq' : ∀ d,(Op.equalIn (d+1) t (.slice ad xs.length c) (.slice none 0 0)).run P w = .ok ad.isNone w:=by
        intro d;cases ad<;>simp[Op.equalIn,qA hu]
       exact hq' 9999
      cases ad<;>simp[eqGuard,Go.binOp,hq]
    ·trivial
   ·rename_i id es off len cap _ _
    split
    ·rename_i hpt
     unfold slTy at hpt
     split at hpt<;>try (cases hpt;done)
     rename_i ti ht
     split at hpt<;>try (cases hpt;done)
     rename_i e hd
     obtain⟨d,hu,hm⟩:=(hE.ty t ti ht).under
     simp only[hd,TDm]at hm
     subst hm
     simp only[Den,Rep,List.cons.injEq,and_true]at hx hy
     obtain⟨rfl,_⟩:=hy
     obtain⟨ad,rfl,hle,hroom,hgh,hre⟩:=hx
     refine⟨ad.isNone,fun hn => ?_,?_⟩
     ·cases hg:(ρ id).g with
      | true=>exact(hgh hg).2
      | false=>obtain⟨o',e,_⟩:=hre hg;rw[e]at hn;cases hn
     ·rw[hrun]
      have hq:(Op.equal t (.slice ad len.v cap.v) (.slice none 0 0)).run P w = .ok ad.isNone w:=by
       have hq' : ∀ d,(Op.equalIn (d+1) t (.slice ad len.v cap.v) (.slice none 0 0)).run P w = .ok ad.isNone w:=by
        intro d;cases ad<;>simp[Op.equalIn,qA hu]
       exact hq' 9999
      cases ad<;>simp[eqGuard,Go.binOp,hq]
    ·trivial
   ·rename_i op' xx _ _ _ _
    split
    ·rename_i hpt heq
     unfold qi8 at hpt
     split at hpt<;>try (cases hpt;done)
     rename_i ti ht
     split at hpt<;>try (cases hpt;done)
     rename_i e hd
     obtain⟨d,hu,hm⟩:=(hE.ty t ti ht).under
     simp only[hd,TDm]at hm
     subst hm
     simp only[Den,Rep,List.cons.injEq,and_true]at hy
     obtain⟨rfl,_⟩:=hy
     have hpp : ∀ (p:Option Addr),ux = .pointer p->(execOp a.eval o).run P w = .ok (.value (.bool (if neqB op then !(p.isNone) else p.isNone))) w:=by
      rintro p rfl
      rw[hrun]
      have hq:(Op.equal t (.pointer p) (.pointer none)).run P w = .ok p.isNone w:=by
       have hq' : ∀ d,(Op.equalIn (d+1) t (.pointer p) (.pointer none)).run P w = .ok p.isNone w:=by
        intro d;cases p<;>simp[Op.equalIn,qA hu]
       exact hq' 9999
      cases op<;>simp[qi9]at heq<;>cases p<;>simp[eqGuard,Go.binOp,hq,neqB]
     split
     ·simp only[Den,Rep,List.cons.injEq,and_true]at hx
      refine setB _ ?_
      rw[hpp _ hx]
      cases neqB op<;>simp
     ·rename_i c off _ _
      have : ∃ ad,ux = .pointer (some ad):=by
       cases c<;>simp only[Den,Rep,List.cons.injEq,and_true]at hx<;>first
        | (obtain⟨b,o,ws,e,_⟩:=hx;exact⟨_,e⟩)
        | (obtain⟨b,o,e,_⟩:=hx;exact⟨_,e⟩)
      obtain⟨ad,hx⟩:=this
      refine setB _ ?_
      rw[hpp _ hx]
      cases neqB op<;>simp
     ·simp only[Den,Rep,List.cons.injEq,and_true]at hx
      refine setB _ ?_
      rw[hpp _ hx.1]
      cases neqB op<;>simp
     ·trivial
    ·trivial
   ·rename_i sa sb _ _
    simp only[Den,Rep,List.cons.injEq,and_true]at hx hy
    split<;>try trivial
    rename_i hc
    have hg:(eqGuard op t x y (.string sa) (.string sb)).run P w = .ok () w:=by
     cases op<;>simp[eqGuard]
    have hb:(Go.binOp op t (.string sa) (.string sb)).run P w = .ok (.bool (qdb op sa sb)) w:=by
     cases op<;>simp[BinOp.isCmp]at hc<;>simp[Go.binOp,Op.stringOp,qdb]
    refine setS _ ?_
    rw[hrun,hx.1,hy.1,hg,hE.om]
    simp[hb,Om.real]
   ·unfold qcv
    split
    ·rename_i b c h1 h2 h3
     have hx':=qjw h1 hx
     have hy':=qjw h2 hy
     unfold qja at h3
     split at h3<;>try (cases h3;done)
     rename_i ti ht
     split at h3<;>try (cases h3;done)
     rename_i hd
     obtain⟨d,hu,hm⟩:=(hE.ty t ti ht).under
     simp only[hd,TDm]at hm
     subst hm
     have hq:(Op.equal t (.bool b) (.bool c)).run P w = .ok (b == c) w:=by
      have hq' : ∀ d,(Op.equalIn (d+1) t (.bool b) (.bool c)).run P w = .ok (b == c) w:=by
       intro d;simp[Op.equalIn,qA hu]
      exact hq' 9999
     have hg:(eqGuard op t x y (.bool b) (.bool c)).run P w = .ok () w:=by
      cases op<;>simp[eqGuard]
     split
     ·refine setS _ ?_
      rw[hrun,hx',hy',hg,hE.om]
      cases b<;>cases c<;>simp[Go.binOp,hq,Om.real]
     ·refine setS _ ?_
      rw[hrun,hx',hy',hg,hE.om]
      cases b<;>cases c<;>simp[Go.binOp,hq,Om.real]
     ·trivial
    ·trivial
end
end Go.Sx
end
section
namespace Go.Sx
theorem qjx {α β:Type} (f:α->β) (xs:Array α):xs.map f=(xs.toList.map f).toArray:=Array.ext' (by simp)
section
variable {P:Program} {E:Env} (hE:EnvOk P E) {ρ:Rho} {H:Snap} {ts:List SVal} {h:Heap} {top:Top} {a:Act} {w:World} {o:Oper}
theorem setB {b:Bool} (hr:(execOp a.eval o).run P w = .ok (.value (.bool b)) w):q8 P ρ H top a w o (.bs b):=⟨_,hr,by simp[Den,Rep],trivial⟩
theorem qn8 {b:Bool} (hr:(execOp a.eval o).run P w = .ok (.value (.bool b)) w):q8 P ρ H top a w o (.bl b):=⟨_,hr,by simp[Den,Rep],trivial⟩
theorem setI {k:IntKind} {n:Int} (hr:(execOp a.eval o).run P w = .ok (.value (.int k n)) w):q8 P ρ H top a w o (.int k n):=⟨_,hr,by simp[Den,Rep],trivial⟩
theorem setL {k:IntKind} {n:Int} (hr:(execOp a.eval o).run P w = .ok (.value (.int k n)) w):q8 P ρ H top a w o (.lit k n):=⟨_,hr,by simp[Den,Rep],trivial⟩
include hE
theorem qn9 (R:Rel E ρ H ts h top a w) {c x y:Operand} (hop:o.op = .pick c x y):qM P E ρ H h top a w o (qd E ts h o.op):=by
 have hc:=R.den1 c
 have hx:=R.den1 x
 have hy:=R.den1 y
 have ix:=R.ids1 x
 have iy:=R.ids1 y
 have hrun : ∀ b,a.eval c = .bool b->(execOp a.eval o).run P w = .ok (.value (if b then a.eval x else a.eval y)) w:=by
  intro b hb
  simp[execOp,hop,hb,asBool]
 have eb:E.Ω.bite=fun c a b=>if c then a else b:=by rw[hE.om];rfl
 rw[hop]
 simp only[qd]
 split
 ·rename_i h1
  rw[h1]at hc;simp only[Den,Rep,List.cons.injEq,and_true]at hc
  exact⟨_,hrun _ hc,by simpa using hx,ix⟩
 ·rename_i h1
  rw[h1]at hc;simp only[Den,Rep,List.cons.injEq,and_true]at hc
  exact⟨_,hrun _ hc,by simpa using hy,iy⟩
 ·rename_i b h1
  rw[h1]at hc;simp only[Den,Rep,List.cons.injEq,and_true]at hc
  have hr:=hrun _ hc
  rw[eb]
  split<;>first
   | trivial
   | (rename_i a1 b1 h2 h3
      rw[h2]at hx;rw[h3]at hy
      simp only[Den,Rep,List.cons.injEq,and_true]at hx hy
      rw[hx,hy]at hr
      refine setB ?_
      rw[hr];cases b<;>rfl)
 ·trivial
theorem qoa (R:Rel E ρ H ts h top a w) {x:Operand} (hop:o.op = .nilCheck x):qM P E ρ H h top a w o (qd E ts h o.op):=by
 have hx:=R.den1 x
 have ix:=R.ids1 x
 rw[hop]
 simp only[qd]
 split
 ·rename_i id off h1
  rw[h1]at hx ix
  have hx':=hx
  simp only[Den,Rep,List.cons.injEq,and_true]at hx'
  exact⟨_,by simp[execOp,hop,hx'];rfl,by rw[<- hx'];exact hx,ix⟩
 ·rename_i c off h1
  rw[h1]at hx ix
  have : ∃ ad,a.eval x = .pointer (some ad):=by
   have hx':=hx
   simp only[Den]at hx'
   cases c<;>simp only[Rep,List.cons.injEq,and_true]at hx'<;>first
    | (obtain⟨b,o,ws,e,_⟩:=hx';exact⟨_,e⟩)
    | (obtain⟨b,o,e,_⟩:=hx';exact⟨_,e⟩)
  obtain⟨ad,hx'⟩:=this
  exact⟨_,by simp[execOp,hop,hx'];rfl,by rw[<- hx'];exact hx,ix⟩
 ·rename_i f fs cs h1
  rw[h1]at hx ix
  have : ∃ fs cs,a.eval x = .func (.func f) fs cs:=by
   have hx':=hx
   simp only[Den,Rep,List.cons.injEq,and_true]at hx'
   obtain⟨fs,cs,e,_⟩:=hx'
   exact⟨_,_,e⟩
  obtain⟨fs,cs,hx'⟩:=this
  exact⟨_,by simp[execOp,hop,hx'];rfl,by rw[<- hx'];exact hx,ix⟩
 ·trivial
theorem qob (R:Rel E ρ H ts h top a w) {op:UnOp} {t:TypeId} {x:Operand} (hop:o.op = .unOp op t x):qM P E ρ H h top a w o (qd E ts h o.op):=by
 have hx:=R.den1 x
 rw[hop]
 simp only[qd]
 split<;>first
  | trivial
  | (rename_i h1
     rw[h1]at hx
     simp only[Den,Rep,List.cons.injEq,and_true]at hx
     first|refine qn8 ?_|refine setB ?_|refine setL ?_|refine setI ?_
     simp[execOp,hop,hx,Op.unary,Op.intArith,Op.intBits,hE.om,Om.real,unL])
theorem qoc (R:Rel E ρ H ts h top a w) {x:Operand} {i:Nat} (hop:o.op = .extract x i):qM P E ρ H h top a w o (qd E ts h o.op):=by
 have hx:=R.den1 x
 have ix:=R.ids1 x
 rw[hop]
 simp only[qd]
 split
 ·rename_i l h1
  split<;>try trivial
  rename_i hi
  have hi:i<l.length:=Nat.le_of_ble_eq_true hi
  rw[h1]at hx ix
  simp only[Den,Rep,List.cons.injEq,and_true]at hx
  obtain⟨ws,e,hw⟩:=hx
  have hlen : ∀ (l:List SVal) {vs:List Value},RepV ρ H l vs->l.length=vs.length:=by
   intro l
   induction l with
   | nil=>intro vs h;simp only[RepV]at h;subst h;rfl
   | cons s l ih=>intro vs h;obtain⟨v,ws,rfl,_,h2⟩:=RepV_cons.1 h;simp[ih h2]
  have hl:=hlen l hw
  refine⟨ws[i]'(by omega),?_,qgY l i (by omega) hw,qdm l i ix⟩
  simp[execOp,hop,e,Instr.extract,show i<ws.length by omega]
 ·trivial
theorem qb9 (R:Rel E ρ H ts h top a w) : ∀ (l:List Operand),RepV ρ H (l.map (evl E ts)) (l.map a.eval)/\IdsLtL top (l.map (evl E ts))
 | []=>⟨by simp[RepV],trivial⟩
 | x :: l=>⟨by simp only[List.map_cons];exact RepV_cons.2 ⟨_,_,rfl,R.den1 x,(qb9 R l).1⟩,R.ids1 x,(qb9 R l).2⟩
theorem qod (R:Rel E ρ H ts h top a w) {f:Fn} {xs cs:Array Operand} (hop:o.op = .makeFunc f xs cs):qM P E ρ H h top a w o (qd E ts h o.op):=by
 rw[hop]
 simp only[qd]
 split
 ·rename_i f
  have h1:=qb9 hE R xs.toList
  have h2:=qb9 hE R cs.toList
  refine⟨.func (.func f) (xs.map a.eval) (cs.map a.eval),by simp[execOp,hop,Instr.makeFunc],?_,h1.2,h2.2⟩
  simp only[Den,Rep,List.cons.injEq,and_true]
  exact⟨xs.toList.map a.eval,cs.toList.map a.eval,by rw[qjx,qjx],h1.1,h2.1⟩
 ·trivial
end
end Go.Sx
end
section
namespace Go.Sx
theorem SN.add_v (a b:SN):(SN.add Om.real a b).v=a.v+b.v:=by
 cases a with
 | l n=>cases n<;>cases b with
   | l m=>cases m<;>simp[SN.add,SN.v]
   | s m=>simp[SN.add,SN.v,Om.real]
 | s n=>cases b with
   | l m=>cases m<;>simp[SN.add,SN.v,Om.real]
   | s m=>simp[SN.add,SN.v,Om.real]
theorem SN.mulc_v (c:Nat) (a:SN):(SN.mulc Om.real c a).v=a.v*c:=by
 cases a with
 | l n=>simp[SN.mulc,SN.v]
 | s n =>
   simp only[SN.mulc]
   split<;>simp[SN.v,Om.real]
theorem SN.sub_v (a b:SN):(SN.sub Om.real a b).v=a.v-b.v:=by
 cases a with
 | l n=>cases b with
   | l m=>cases m<;>simp[SN.sub,SN.v]
   | s m=>simp[SN.sub,SN.v,Om.real]
 | s n=>cases b with
   | l m=>cases m<;>simp[SN.sub,SN.v,Om.real]
   | s m=>simp[SN.sub,SN.v,Om.real]
theorem qbi (b o n:Nat):(⟨b,o,none⟩:Addr).add n=⟨b,o+n,none⟩:=by
 unfold Addr.add;split<;>simp_all
section
variable {P:Program} {E:Env} (hE:EnvOk P E) {ρ:Rho} {H:Snap} {ts:List SVal} {h:Heap} {top:Top} {a:Act} {w:World} {o:Oper}
theorem qjy : ∀ (l:List (Nat × TypeId)) (n:Nat),qbD l n=l[n]?
 | [],0=>rfl
 | _ :: _,0=>rfl
 | [],n+1=>rfl
 | _ :: l,n+1=>by simp only[qbD,List.getElem?_cons_succ];exact qjy l n
theorem qg1 {t:TypeId} {ti:TI} {fs:List (Nat × TypeId)} (hty:TyOk P t ti) (hd:ti.d = .st fs) : ∃ l:Array Field,P.underlying t=some (.struct l) /\ ∀ f o ft,qbD fs f=some (o,ft) ->
  ∃ fl:Field,l[f]?=some fl/\fl.offset=o/\fl.type=ft:=by
 obtain⟨d,hu,hm⟩:=hty.under
 simp only[hd,TDm]at hm
 obtain⟨l,rfl,rfl⟩:=hm
 refine⟨l,hu,fun f o ft hf => ?_⟩
 rw[qjy,List.getElem?_map,Option.map_eq_some_iff]at hf
 obtain⟨fl,h1,h2⟩:=hf
 exact⟨fl,by simpa using h1,congrArg Prod.fst h2,congrArg Prod.snd h2⟩
theorem qg2 {c:SVal} {off:SN} {v:Value} (hc:qbA c=true) (hx:Den ρ H (.rop c off) v) : ∃ b o ws,v = .pointer (some ⟨b,o+off.v,none⟩)/\Rep ρ H c ws /\ ∀ (j:Nat) u,ws[j]?=some u->qu H b (o+j)=some u:=by
 cases c<;>simp only[qbA,Bool.false_eq_true]at hc<;>simp only[Den,Rep,List.cons.injEq,and_true]at hx ⊢ <;> exact hx
theorem qdp {c:SVal} {off:SN} {b o:Nat} {ws:List Value} (hc:qbA c=true) (hr:Rep ρ H c ws) (hj : ∀ (j:Nat) u,ws[j]?=some u->qu H b (o+j)=some u) :
  Den ρ H (.rop c off) (.pointer (some ⟨b,o+off.v,none⟩)):=by
 cases c<;>simp only[qbA,Bool.false_eq_true]at hc<;>simp only[Den,Rep,List.cons.injEq,and_true]at hr ⊢ <;> exact⟨b,o,ws,rfl,hr,hj⟩
include hE
theorem qoe (R:Rel E ρ H ts h top a w) {t:TypeId} {x:Operand} {f:Nat} (hop:o.op = .fieldAddr t x f) :
  qM P E ρ H h top a w o (qd E ts h o.op):=by
 have hx:=R.den1 x
 have ix:=R.ids1 x
 rw[hop]
 simp only[qd]
 split<;>try trivial
 rename_i ti ht
 split<;>try trivial
 rename_i fs hd
 have hty:=hE.ty t ti ht
 obtain⟨l,hu,hl⟩:=qg1 hty hd
 split<;>try trivial
 rename_i oo ft hf
 split<;>try trivial
 rename_i hsome
 obtain⟨tf,htf⟩:=Option.isSome_iff_exists.1 hsome
 have run : ∀ b o',a.eval x = .pointer (some ⟨b,o',none⟩)->(execOp a.eval o).run P w = .ok (.value (.pointer (some ⟨b,o'+oo,none⟩))) w:=by
  intro b o' hv
  obtain⟨fl,h1,h2,h3⟩:=hl f oo ft hf
  have hty2:=hE.ty ft tf htf
  have hpos:tf.size ≠ 0:=by have:=hty2.pos;omega
  simp[execOp,hop,hv,Instr.fieldAt,qA hu,h1,Instr.sureAddr,fieldPlace,h3,hty2.run_sizeOf,hpos,qbi,h2]
 have ev : ∀ off:SN,(off.add E.Ω (.l oo)).v=off.v+oo:=fun off=>by rw[hE.om];exact SN.add_v _ _
 split
 ·rename_i id off h1
  rw[h1]at hx ix
  simp only[Den,Rep,List.cons.injEq,and_true]at hx
  refine⟨_,run _ _ hx,?_,ix⟩
  simp only[Den,Rep,ev,Nat.add_assoc]
 ·rename_i c off h1
  split<;>try trivial
  rename_i hc
  rw[h1]at hx ix
  obtain⟨b,o',ws,hv,hr,hj⟩:=qg2 hc hx
  refine⟨_,run _ _ hv,?_,ix⟩
  have:=qdp (off:=off.add E.Ω (.l oo)) hc hr hj
  rw[ev,<- Nat.add_assoc]at this
  exact this
 ·rename_i cols n i f' h1
  rw[h1]at hx ix
  simp only[Den,Rep,List.cons.injEq,and_true]at hx
  obtain⟨b,o',hv,hr⟩:=hx
  refine⟨_,run _ _ hv,?_,ix⟩
  simp only[Den,Rep,List.cons.injEq,and_true]
  exact⟨b,o',by rw[show Nat.add f' oo=f'+oo from rfl,<- Nat.add_assoc],hr⟩
 ·trivial
theorem qjz {t:TypeId} {ti:TI} (hty:TyOk P t ti) {vs:List Value} {off:Nat} (hl:off+ti.size<=vs.length) (w:World) :
  ∃ v,(part t vs.toArray off).run P w = .ok v w/\(ti.agg=true->v = .agg ((vs.drop off).take ti.size).toArray)/\(ti.agg=false->vs[off]?=some v):=by
 cases ha:ti.agg with
 | true =>
   refine⟨.agg ((vs.drop off).take ti.size).toArray,?_,fun _=>rfl,by intro h;cases h⟩
   simp only[part,Sem.run_bind,hty.run_isAgg,Result.andThen_ok,ha,if_true,hty.run_sizeOf,Sem.run_pure]
   congr 2
   apply Array.ext'
   simp[List.extract_eq_take_drop]
 | false =>
   have h1:=hty.one ha
   have:off<vs.length:=by omega
   refine⟨vs[off],?_,(by intro h;cases h),fun _=>List.getElem?_eq_getElem this⟩
   simp only[part,Sem.run_bind,hty.run_isAgg,Result.andThen_ok,ha,Bool.false_eq_true,if_false]
   simp[this]
theorem qjA {s:SVal} {v:Value} (hd:Den ρ H s v) (ha:s.isAgg=true) : ∃ vs,v = .agg vs.toArray/\Rep ρ H s vs:=by
 cases s<;>simp only[SVal.isAgg,Bool.false_eq_true]at ha<;>simp only[Den]at hd
 ·exact⟨_,hd.2,by simp only[Rep];exact⟨hd.1,trivial⟩⟩
 ·obtain⟨us,h1,h2⟩:=hd
  exact⟨us,h2,by simpa only[Rep]using h1⟩
 ·obtain⟨xs,h1,h2⟩:=hd
  exact⟨_,h2,by simp only[Rep];exact⟨xs,rfl,h1⟩⟩
end
end Go.Sx
end
section
namespace Go.Sx
section
variable {P:Program} {E:Env} (hE:EnvOk P E) {ρ:Rho} {H:Snap} {ts:List SVal} {h:Heap} {top:Top} {a:Act} {w:World} {o:Oper}
include hE
theorem qof (R:Rel E ρ H ts h top a w) {t:TypeId} {x:Operand} {f:Nat} (hop:o.op = .field t x f):qM P E ρ H h top a w o (qd E ts h o.op):=by
 have hx:=R.den1 x
 have ix:=R.ids1 x
 rw[hop]
 simp only[qd]
 split<;>try trivial
 rename_i ti ht
 split<;>try trivial
 rename_i fs hd
 split<;>try trivial
 rename_i oo ft hf
 split<;>try trivial
 rename_i tf htf
 split<;>try trivial
 rename_i hc
 simp only[Bool.and_eq_true]at hc
 obtain⟨hag,hw⟩:=hc
 have hty:=hE.ty t ti ht
 have hty2:=hE.ty ft tf htf
 obtain⟨l,hu,hl⟩:=qg1 hty hd
 obtain⟨fl,g1,g2,g3⟩:=hl f oo ft hf
 obtain⟨vs,hv,hr⟩:=qjA hE hx hag
 have hlen:=qb8 hr hw hty2.pos
 obtain⟨v,r1,r2,r3⟩:=qjz (P:=P) hE hty2 hlen w
 refine⟨v,?_,qdj hE.om _ oo tf.size tf.agg hr hlen hty2.one v r2 r3,qbv _ _ _ _ ix⟩
 simp[execOp,hop,hv,Instr.field,qA hu,g1,asAgg,g2,g3,r1]
omit hE in
theorem qa9 (hΩ:E.Ω=Om.real) {n:SN} {s:SVal} {p:Option (Unit->Prop)} {i:SN} {v:Value} (hi:idx E n s=some (p,i)) (hd:Den ρ H s v) (hp : ∀ q,p=some q->q ()) :
  ∃ k z,v = .int k z/\0<=z/\z<n.v/\i.v=z.toNat:=by
 cases s<;>simp only[idx]at hi<;>try (cases hi;done)
 ·rename_i k z
  simp only[Den,Rep,List.cons.injEq,and_true]at hd
  split at hi
  ·rename_i m
   split at hi<;>try (cases hi;done)
   rename_i h1 h2
   cases hi
   have h1:0<=z:=by simpa using h1
   have h2:z.toNat<m:=Nat.le_of_ble_eq_true h2
   exact⟨k,z,hd,h1,by simp only[SN.v];omega,rfl⟩
  ·rename_i m
   split at hi<;>try (cases hi;done)
   rename_i h1
   cases hi
   have h1:0<=z:=by simpa using h1
   have h2:z.toNat<m:=hp _ rfl
   exact⟨k,z,hd,h1,by simp only[SN.v];omega,rfl⟩
 ·rename_i k z
  simp only[Den,Rep,List.cons.injEq,and_true]at hd
  cases hi
  have:=hp _ rfl
  exact⟨k,z,hd,this.1,this.2,by rw[hΩ];rfl⟩
theorem qba {p:Option (Unit->Prop)} {v:SVal} (hs:(∀ q,p=some q->q ())->q8 P ρ H top a w o v):qM P E ρ H h top a w o (qag p v):=by
 cases p with
 | none=>exact hs (by intro q hq;cases hq)
 | some q=>intro hq;exact hs (by intro q' hq';cases hq';exact hq)
theorem qog (R:Rel E ρ H ts h top a w) {t:TypeId} {x y:Operand} (hop:o.op = .indexAddr t x y):qM P E ρ H h top a w o (qd E ts h o.op):=by
 have hx:=R.den1 x
 have ix:=R.ids1 x
 have hy:=R.den1 y
 rw[hop]
 simp only[qd]
 generalize evl E ts x=sx at hx ix
 generalize evl E ts y=sy at hy
 have hl1 : ∀ xs,E.Ω.len xs=xs.length:=fun xs=>by rw[hE.om];rfl
 have hl2 : ∀ xs,E.Ω.len2 xs=xs.length:=fun xs=>by rw[hE.om];rfl
 unfold qb5
 simp only[hl1,hl2]
 split<;>try trivial
 rename_i ti ht
 have hty:=hE.ty t ti ht
 obtain⟨d,hu,hm⟩:=hty.under
 have eadd : ∀ x y:SN,(x.add E.Ω y).v=x.v+y.v:=fun x y=>by rw[hE.om];exact SN.add_v x y
 have emul : ∀ (x:SN) c,(x.mulc E.Ω c).v=x.v*c:=fun x c=>by rw[hE.om];exact SN.mulc_v c x
 split
 ·rename_i n e hd
  simp only[hd,TDm]at hm
  subst hm
  split<;>try trivial
  rename_i te p i hte hidx
  have hty2:=hE.ty e te hte
  have run:(∀ q,p=some q->q ()) -> ∀ b o',a.eval x = .pointer (some ⟨b,o',none⟩)->(execOp a.eval o).run P w = .ok (.value (.pointer (some ⟨b,o'+i.v*te.size,none⟩))) w:=by
   intro hp b o' hv
   obtain⟨k,z,hz,h0,h1,h2⟩:=qa9 hE.om hidx hy hp
   simp only[SN.v]at h1
   simp[execOp,hop,hv,hz,Instr.indexAt,asIntOf,qA hu,Instr.sureAddr,h0,h1,hty2.run_sizeOf,qbi,h2]
  split
  ·rename_i id off
   simp only[Den,Rep,List.cons.injEq,and_true]at hx
   refine qba hE fun hp=>⟨_,run hp _ _ hx,?_,ix⟩
   simp only[Den,Rep,eadd,emul,Nat.add_assoc]
  ·rename_i c off
   split<;>try trivial
   rename_i hc
   obtain⟨b,o',ws,hv,hr,hj⟩:=qg2 hc hx
   refine qba hE fun hp=>⟨_,run hp _ _ hv,?_,ix⟩
   have:=qdp (off:=off.add E.Ω (i.mulc E.Ω te.size)) hc hr hj
   rw[eadd,emul,<- Nat.add_assoc]at this
   exact this
  ·trivial
 ·rename_i e hd
  simp only[hd,TDm]at hm
  subst hm
  split<;>try trivial
  rename_i te hte
  have hty2:=hE.ty e te hte
  have run : ∀ (n i:SN) p,idx E n sy=some (p,i)->(∀ q,p=some q->q ()) -> ∀ b o' c,a.eval x = .slice (some ⟨b,o',none⟩) n.v c->(execOp a.eval o).run P w = .ok (.value (.pointer (some ⟨b,o'+i.v*te.size,none⟩))) w:=by
   intro n i p hidx hp b o' c hv
   obtain⟨k,z,hz,h0,h1,h2⟩:=qa9 hE.om hidx hy hp
   simp[execOp,hop,hv,hz,Instr.indexAt,asIntOf,qA hu,h0,h1,hty2.run_sizeOf,qbi,h2]
  split
  ·rename_i id es off len cap
   split<;>try trivial
   rename_i p i hes hidx
   have hes:=Nat.eq_of_beq_eq_true hes
   simp only[Den,Rep,List.cons.injEq,and_true]at hx
   obtain⟨ad,hx,hlc,_,hgh,hre⟩:=hx
   refine qba hE fun hp => ?_
   obtain⟨k,z,hz,h0,h1,h2⟩:=qa9 hE.om hidx hy hp
   have hg0:(ρ id).g=false:=by
    rcases Bool.eq_false_or_eq_true (ρ id).g with hg|hg
    ·have:=(hgh hg).2;omega
    ·exact hg
   obtain⟨o',rfl,ho'⟩:=hre hg0
   refine⟨_,run len i p hidx hp _ _ _ hx,?_,ix⟩
   rw[ho' (by omega)]
   simp only[Den,Rep,eadd,emul,Nat.add_assoc,hes]
  ·rename_i k xs
   split<;>try trivial
   rename_i p i hes hidx
   simp only[Den,Rep,List.cons.injEq,and_true]at hx
   obtain⟨v,e1,aa,c,e2,hle,hro⟩:=hx
   subst e1
   refine qba hE fun hp => ?_
   obtain⟨kz,z,hz,h0,h1,h2⟩:=qa9 hE.om hidx hy hp
   simp only[SN.v]at h1
   obtain⟨b,o',ha,hc⟩:=hro z.toNat (xs[z.toNat]'(by omega)) (List.getElem?_eq_getElem (by omega))
   subst ha
   refine⟨_,run (.s xs.length) i p hidx hp b o' c e2,?_,ix⟩
   rw[hes,Nat.mul_one]
   refine qdp rfl (ws:=xs.map (Value.int k)) (by simp only[Rep]) fun j u hj => ?_
   rw[List.getElem?_map,Option.map_eq_some_iff]at hj
   obtain⟨xx,hj1,rfl⟩:=hj
   obtain⟨b',o'',hb,hc'⟩:=hro j xx hj1
   cases hb
   exact hc'
  ·rename_i k xss
   split<;>try trivial
   rename_i p i hes hidx
   simp only[Den,Rep,List.cons.injEq,and_true]at hx
   obtain⟨aa,c,e2,hle,hro⟩:=hx
   refine qba hE fun hp => ?_
   obtain⟨kz,z,hz,h0,h1,h2⟩:=qa9 hE.om hidx hy hp
   simp only[SN.v]at h1
   obtain⟨b,o',u0,ha,hc,_⟩:=hro z.toNat (xss[z.toNat]'(by omega)) (List.getElem?_eq_getElem (by omega))
   subst ha
   refine⟨_,run (.s xss.length) i p hidx hp b o' c e2,?_,ix⟩
   rw[hes,Nat.mul_one]
   simp only[Den,Rep,List.cons.injEq,and_true]
   refine⟨b,o',rfl,fun j xs hj => ?_⟩
   obtain⟨b',o'',u,hb,h3,h4⟩:=hro j xs hj
   cases hb
   exact⟨u,h3,h4⟩
  ·rename_i k es xss
   split<;>try trivial
   rename_i p i hes hidx
   have hes:=Nat.eq_of_beq_eq_true hes
   simp only[Den,Rep,List.cons.injEq,and_true]at hx
   obtain⟨aa,c,e2,hle,hro⟩:=hx
   refine qba hE fun hp => ?_
   obtain⟨kz,z,hz,h0,h1,h2⟩:=qa9 hE.om hidx hy hp
   simp only[SN.v]at h1
   obtain⟨hl0,b,o',ha,hc⟩:=hro z.toNat (xss[z.toNat]'(by omega)) (List.getElem?_eq_getElem (by omega))
   subst ha
   refine⟨_,run (.s xss.length) i p hidx hp b o' c e2,?_,ix⟩
   rw[hes]
   simp only[Den,Rep,List.cons.injEq,and_true]
   refine⟨b,o',rfl,fun j xs hj => ?_⟩
   obtain⟨h3,b',o'',hb,h4⟩:=hro j xs hj
   cases hb
   exact⟨h3,h4⟩
  ·rename_i cols n
   split<;>try trivial
   rename_i p i hes hidx
   have hes:=Nat.eq_of_beq_eq_true hes
   simp only[Den,Rep,List.cons.injEq,and_true]at hx
   obtain⟨aa,c,e2,hle,hro⟩:=hx
   refine qba hE fun hp => ?_
   obtain⟨kz,z,hz,h0,h1,h2⟩:=qa9 hE.om hidx hy hp
   simp only[SN.v]at h1
   obtain⟨b,o',ha,hc⟩:=hro (by omega)
   subst ha
   refine⟨_,run (.s n) i p hidx hp b o' c e2,?_,ix⟩
   rw[hes]
   simp only[Den,Rep,List.cons.injEq,and_true]
   exact⟨b,o',rfl,hc⟩
  ·rename_i q
   split<;>try trivial
   rename_i p i hes hidx
   have hes:=Nat.eq_of_beq_eq_true hes
   have hlo:lenO E q=q.len:=by cases q<;>(unfold lenO;rw[hE.om];rfl)
   rw[hlo]at hidx
   simp only[Den,Rep,List.cons.injEq,and_true]at hx
   obtain⟨aa,c,ys,e2,hle,hq,hro⟩:=hx
   refine qba hE fun hp => ?_
   obtain⟨kz,z,hz,h0,h1,h2⟩:=qa9 hE.om hidx hy hp
   simp only[SN.v]at h1
   have hpos:0<ys.length:=by rw[hq.1];exact Nat.mul_pos (by omega) q.es_pos
   obtain⟨b,o',ha,hc⟩:=hro 0 ys[0] (List.getElem?_eq_getElem hpos)
   subst ha
   refine⟨_,run (.s q.len) i p hidx hp b o' c e2,?_,ix⟩
   rw[hes]
   simp only[Den,Rep,List.cons.injEq,and_true]
   refine⟨b,o',ys,rfl,hq,fun j y hj => ?_⟩
   obtain⟨b',o'',hb,h3⟩:=hro j y hj
   cases hb;exact h3
  ·trivial
 ·trivial
theorem qoh (R:Rel E ρ H ts h top a w) {t:TypeId} {x:Operand} (hop:o.op = .load t x):qM P E ρ H h top a w o (qd E ts h o.op):=by
 have hx:=R.den1 x
 have ix:=R.ids1 x
 rw[hop]
 simp only[qd]
 split<;>try trivial
 rename_i ti ht
 have hty:=hE.ty t ti ht
 have roc : ∀ b o' v,qu H b o'=some v->w.cell? ⟨b,o',none⟩=some v:=by
  intro b o' v hv
  unfold qu at hv
  split at hv<;>try (cases hv;done)
  rename_i cs te fr hb
  simp[World.cell?,R.agree b _ hb,hv]
 split<;>try trivial
 ·rename_i id off h1
  rw[h1]at hx
  by_cases hj:look h id = .junk
  ·rw[hj];unfold rd;split<;>(try split)<;>trivial
  ·rcases R.lies hj with hgh|⟨arr,te,vs,l⟩
   ·obtain⟨_,_,k,hk⟩:=hgh
    rw[hk]
    have:=hty.pos
    cases k with
    | none =>
      show qM P E ρ H h top a w o (rd E ti (.lsr [] []) off)
      cases off<;>trivial
    | some k =>
      show qM P E ρ H h top a w o (rd E ti (.seq k []) off)
      unfold rd
      split
      · intro hp;simp at hp;omega
      · simp only
        split
        · intro hp;simp at hp;omega
        · intro hp;simp at hp;omega
   simp only[Den,Rep,List.cons.injEq,and_true]at hx
   exact qju hE ht l.rep (R.lids id) l.cell hop hx
 ·rename_i c off h1
  rw[h1]at hx ix
  split
  ·rename_i k xss
   simp only[Den,Rep,List.cons.injEq,and_true]at hx
   obtain⟨b,o',e,hr⟩:=hx
   split<;>try trivial
   rename_i hsl
   have key : ∀ n,off.v=n->n<xss.length->q8 P ρ H top a w o (.roi k (E.Ω.at2 xss n)):=by
    intro n hn hlt
    obtain⟨u,h3,h4⟩:=hr n _ (List.getElem?_eq_getElem hlt)
    have h4':=h4
    obtain⟨aa,c,rfl,_⟩:=h4
    have hag:ti.agg=false:=by
     have:=hty.agg
     rcases Bool.eq_false_or_eq_true ti.agg with hh|hh
     ·have:=this.1 hh
      unfold qey at hsl
      rcases this with⟨fs,hd⟩|⟨n,e,hd⟩<;>simp[hd]at hsl
     ·exact hh
    refine⟨.slice aa (xss[n].length) c,?_,?_,trivial⟩
    ·simp only[execOp,hop,e,Instr.loadAt,Instr.sureAddr,loadVar,Sem.run_bind,Sem.run_pure,Result.andThen_ok,hty.run_isAgg,hag,Bool.false_eq_true,if_false,run_load]
     rw[hn,roc _ _ _ h3]
     rfl
    ·simp only[Den,Rep,List.cons.injEq,and_true]
     refine⟨_,rfl,?_⟩
     rw[hE.om]
     simpa[Om.real,List.getD,List.getElem?_eq_getElem hlt]using h4'
   split
   ·intro hp;exact key _ rfl hp
   ·intro hp;exact key _ rfl hp
  ·rename_i k es xss
   simp only[Den,Rep,List.cons.injEq,and_true]at hx
   obtain⟨b,o',e,hr⟩:=hx
   split<;>try trivial
   rename_i hsl
   simp only[Bool.and_eq_true]at hsl
   have hsz:=Nat.eq_of_beq_eq_true hsl.2
   have key : ∀ n,off.v=n->n<xss.length->q8 P ρ H top a w o (.row k es (E.Ω.at2 xss n)):=by
    intro n hn hlt
    obtain⟨h3,h4⟩:=hr n _ (List.getElem?_eq_getElem hlt)
    have:=qeC (P:=P) hty (w:=w) (b:=b) (o:=o'+n*es) (off:=0) (vs:=xss[n].map (Value.int k)) (fun j v hj=>by
     rw[List.getElem?_map,Option.map_eq_some_iff]at hj
     obtain⟨xx,hj1,rfl⟩:=hj
     exact roc _ _ _ (h4 j xx hj1)) (by simp[h3,hsz])
    obtain⟨v,r1,r2,_⟩:=this
    refine⟨v,?_,?_,trivial⟩
    ·simp only[execOp,hop,e,Instr.loadAt,Instr.sureAddr,Sem.run_bind,Sem.run_pure,Result.andThen_ok]
     rw[hn]
     simp only[Nat.add_zero]at r1
     rw[r1];rfl
    ·have r2:=r2 hsl.1
     rw[hE.om]
     simp only[Den,Om.real,List.getD,List.getElem?_eq_getElem hlt,Option.getD_some]
     refine⟨h3,?_⟩
     rw[r2]
     simp only[List.drop_zero]
     rw[List.take_of_length_le (by simp[h3,hsz])]
   split
   ·intro hp;exact key _ rfl hp
   ·intro hp;exact key _ rfl hp
  ·rename_i hn1 hn2
   have hc:qbA c=true:=by cases c<;>first|rfl|(exfalso;simp_all)
   obtain⟨b,o',ws,hv,hr,hj⟩:=qg2 hc hx
   exact qju hE ht hr ix (fun j v hv=>roc _ _ _ (hj j v hv)) hop hv
 ·rename_i cols n i f h1
  rw[h1]at hx
  simp only[Den,Rep,List.cons.injEq,and_true]at hx
  obtain⟨b,o',e,hr⟩:=hx
  have kI : ∀ k xs m,ti.agg=false->qda cols f=some (.ints k xs)->i.v=m->m<n->q8 P ρ H top a w o (.int k (E.Ω.at' xs m)):=by
   intro k xs m hag hc hi hlt
   obtain⟨u,h3,x,h4,rfl⟩:=hr m hlt f _ hc
   refine⟨.int k x,?_,?_,trivial⟩
   ·simp only[execOp,hop,e,Instr.loadAt,Instr.sureAddr,loadVar,Sem.run_bind,Sem.run_pure,Result.andThen_ok,hty.run_isAgg,hag,Bool.false_eq_true,if_false,run_load]
    rw[hi,roc _ _ _ h3]
    rfl
   ·simp only[Den,Rep,List.cons.injEq,and_true]
    rw[hE.om]
    simp[Om.real,List.getD,h4]
  have kB : ∀ xss m,ti.agg=false->qda cols f=some (.byts xss)->i.v=m->m<n->q8 P ρ H top a w o (.roi .u8 (E.Ω.at2 xss m)):=by
   intro xss m hag hc hi hlt
   obtain⟨u,h3,xs,h4,h5⟩:=hr m hlt f _ hc
   refine⟨u,?_,?_,trivial⟩
   ·simp only[execOp,hop,e,Instr.loadAt,Instr.sureAddr,loadVar,Sem.run_bind,Sem.run_pure,Result.andThen_ok,hty.run_isAgg,hag,Bool.false_eq_true,if_false,run_load]
    rw[hi,roc _ _ _ h3]
    rfl
   ·simp only[Den,Rep,List.cons.injEq,and_true]
    refine⟨_,rfl,?_⟩
    rw[hE.om]
    simpa[Om.real,List.getD,h4]using h5
  split<;>try trivial
  ·rename_i k xs hag hc
   split
   ·intro hp;exact kI _ _ _ hag hc rfl hp
   ·intro hp;exact kI _ _ _ hag hc rfl hp
  ·rename_i xss hag hc
   split
   ·intro hp;exact kB _ _ hag hc rfl hp
   ·intro hp;exact kB _ _ hag hc rfl hp
 ·rename_i q i h1
  rw[h1]at hx
  split<;>try trivial
  rename_i hsl
  simp only[Bool.and_eq_true]at hsl
  have hsz:=Nat.eq_of_beq_eq_true hsl.2
  have hlo:lenO E q=q.len:=by cases q<;>(unfold lenO;rw[hE.om];rfl)
  have hat:atO E q i.v=q.get i.v:=by cases q<;>(unfold atO;rw[hE.om];rfl)
  simp only[Den,Rep,List.cons.injEq,and_true]at hx
  obtain⟨b,o',ys,e,hq,hr⟩:=hx
  intro hp
  rw[hlo]at hp
  rw[hat]
  have hle:i.v*q.es+q.es<=ys.length:=by
   rw[hq.1,<- Nat.succ_mul];exact Nat.mul_le_mul_right _ hp
  have:=qeC (P:=P) hty (w:=w) (b:=b) (o:=o') (off:=i.v*q.es) (vs:=ys.map (Value.int .u64)) (fun j v hj=>by
   rw[List.getElem?_map,Option.map_eq_some_iff]at hj
   obtain⟨xx,hj1,rfl⟩:=hj
   exact roc _ _ _ (hr j xx hj1)) (by simp only[List.length_map];omega)
  obtain⟨v,r1,r2,_⟩:=this
  refine⟨v,?_,?_,trivial⟩
  ·simp only[execOp,hop,e,Instr.loadAt,Instr.sureAddr,Sem.run_bind,Sem.run_pure,Result.andThen_ok]
   rw[r1];rfl
  ·refine⟨_,hq.2 i.v hp,?_⟩
   rw[r2 hsl.1,PayL.get_k,hsz]
   simp only[List.map_take,List.map_drop]
end
end Go.Sx
end
