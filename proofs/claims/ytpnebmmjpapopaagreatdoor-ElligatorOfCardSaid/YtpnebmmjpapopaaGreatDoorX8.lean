/-
  Part of the proof of a statement: the means.
-/
import Derived.Test.YtpnebmmjpapopaaGreatDoorX31
import Derived.Test.YtpnebmmjpapopaaGreatDoorX5
import Derived.Test.YtpnebmmjpapopaaGreatDoorX7
import Derived.KernelRfl
import Derived.Laws.MathBits
set_option linter.unusedSectionVars false
set_option linter.unusedVariables false
set_option linter.unusedSimpArgs false
set_option linter.deprecated false
section
set_option maxHeartbeats 4000000
namespace Go.Sx
def mkT (n:Nat) (l:List (Nat × SVal)):List SVal:=l.foldl (fun ts p=>setT ts p.1 p.2) (List.replicate n .junk)
theorem qjN (a:Int):0<=IntKind.u64.wrap a:=by
 rw[IntKind.wrap_u64];omega
theorem qt {p:Prop} {r:SVal} {args:List SVal} (h:IdsLt noId r) (h2 : ∀ (E:Env) (b:Nat),(place E b r).2=[]) (hc:IdsLtL noId args):PR.Good ⟨p,Unit,fun _=>True,fun _=>r⟩ args :=
 ⟨fun _=>h,(fun E x b q hq=>by rw[h2 E b]at hq;cases hq),fun _=>hc,fun _=>⟨(),trivial⟩⟩
theorem qba {pr:PR} {args:List SVal} (h:(∀ x,IdsLt noId (pr.res x)) /\ ∀ E:Env,∀ x b,(place E b (pr.res x)).2=[]) (hc:IdsLtL noId args) (hx:pr.pre -> ∃ x,pr.post x):PR.Good pr args :=
 ⟨h.1,(fun E x b p hp=>by rw[h.2 E x b]at hp;cases hp),fun _=>hc,hx⟩
theorem qjO {args:List SVal} {k:IntKind} {p:Prop} {post:Int->Prop} (hc:IdsLtL noId args) (h:p -> ∃ x,post x):PR.Good ⟨p,Int,post,fun z =>.int k z⟩ args :=
 ⟨fun _=>trivial,fun E x b q hq=>by simp[place]at hq,fun _=>hc,h⟩
theorem qny {args:List SVal} {p:Prop} {post:Bool->Prop} (hc:IdsLtL noId args) (h:p -> ∃ x,post x):PR.Good ⟨p,Bool,post,fun z =>.bs z⟩ args :=
 ⟨fun _=>trivial,fun E x b q hq=>by simp[place]at hq,fun _=>hc,h⟩
theorem qgF {args:List SVal} {k:IntKind} {n:Nat} {p:Prop} {post:List Int->Prop} (hc:IdsLtL noId args) (h:p -> ∃ x,post x):PR.Good ⟨p,List Int,post,fun z =>.row k n z⟩ args :=
 ⟨fun _=>trivial,fun E x b q hq=>by simp[place]at hq,fun _=>hc,h⟩
theorem qaE {args:List SVal} {p:Prop} {k:IntKind} {post:List Int × Nat->Prop} (hc:IdsLtL noId args) (h:p -> ∃ x,post x):PR.Good ⟨p,List Int × Nat,post,fun z =>.fr k z.1 z.2⟩ args :=
 ⟨fun _=>trivial,fun E x b q hq=>by simp[place]at hq;subst hq;exact⟨Nat.le_refl _,by simp⟩,fun _=>hc,h⟩
theorem qa5 (l:List Int) : ∃ x:List Int × Nat,x.1=l/\x.1.length<=x.2:=⟨(l,l.length),rfl,Nat.le_refl _⟩
theorem qh {P:Program} {T:TypeId->Option TI} {glob:Nat->SVal} : ∀ p ∈ ([]:List (FuncId × qd)),Ctr P T glob p.1 p.2:=fun p hp=>by cases hp
theorem qb {P:Program} {T:TypeId->Option TI} {glob:Nat->SVal} {g:FuncId} {s:qd} {l:List (FuncId × qd)} (h:Ctr P T glob g s) (hl : ∀ p ∈ l,Ctr P T glob p.1 p.2) : ∀ p ∈ (g,s) :: l,Ctr P T glob p.1 p.2:=fun p hp=>by
 rcases List.mem_cons.1 hp with rfl|hp
 ·exact h
 ·exact hl p hp
theorem qi {P:Program} : ∀ p ∈ ([]:List (FuncId × Func)),qaf P p.1/\P.funcs[p.1]?=some p.2/\qz (qM p.2)=true:=fun p hp=>by cases hp
theorem qL {P:Program} {g:FuncId} {s:Func} {l:List (FuncId × Func)} (h:qaf P g) (h1:P.funcs[g]?=some s) (h2:qz (qM s)=true) (hl : ∀ p ∈ l,qaf P p.1/\P.funcs[p.1]?=some p.2/\qz (qM p.2)=true) :
  ∀ p ∈ (g,s) :: l,qaf P p.1/\P.funcs[p.1]?=some p.2/\qz (qM p.2)=true:=fun p hp=>by
 rcases List.mem_cons.1 hp with rfl|hp
 ·exact⟨h,h1,h2⟩
 ·exact hl p hp
namespace Tryz
open Go.Proofs
def constants:List Int:=[1,32898,9223372036854808714,9223372039002292224,32907,2147483649,9223372039002292353,9223372036854808585,138,136,2147516425,2147483658,2147516555,9223372036854775947,9223372036854808713,9223372036854808579,9223372036854808578,9223372036854775936,32778,9223372039002259466,9223372039002292353,9223372036854808704,2147483649,9223372039002292232]
def way:List Int:=[10,7,11,17,18,3,5,16,8,21,24,4,15,23,19,13,12,2,20,14,22,9,6,1]
def offsets:List Int:=[1,3,6,10,15,21,28,36,45,55,2,14,27,41,56,8,25,43,62,18,39,61,20,44]
def glob:Nat->SVal
 | 0 =>.rop (.row .u64 24 constants) (.l 0)
 | 1 =>.rop (.row .i64 24 way) (.l 0)
 | 2 =>.rop (.row .i64 24 offsets) (.l 0)
 | _ =>.junk
theorem qf : ∀ g,IdsLt noId (glob g):=fun g=>by
 unfold glob
 split<;>trivial
theorem qg:Tryz.prog.follows .mixedOrders=true:=by rfl
def qjP:XK :=.add
def qjQ:XK :=.sub
theorem qnz:XOk Tryz.prog 227 qjP:=x_of Tryz.func227 (by kernel_rfl) (by kernel_rfl) (by kernel_rfl) (by kernel_rfl)
theorem qnA:XOk Tryz.prog 245 qjQ:=x_of Tryz.func245 (by kernel_rfl) (by kernel_rfl) (by kernel_rfl) (by kernel_rfl)
def qgG (Ω:Om):qd:=fun args=>match args with
 | [.int .u64 x,.int .u64 y]=>⟨∀ _:Unit,0<=x/\x<18446744073709551616/\0<=y/\y<18446744073709551616,Unit,fun _=>True,fun _ =>.tup [.int .u64 (Ω.hide _ fun _=>(qdE x y)),.int .u64 (Ω.hide _ fun _=>(qdF x y))]⟩
 | _=>PR.none
theorem qsl:Ctr Tryz.prog T glob 228 (qgG Om.real):=by
 refine qo T_ok qf qg (fun Ω=>[]) [] (fun Ω=>[]) [] qh qi qk ql Tryz.func228 (by rfl) (by kernel_rfl) Tryz.call228 ?_ ?_
 ·intro args;unfold qgG;split
  ·exact qt (by repeat' constructor) (fun _ _=>rfl) (by repeat' constructor)
  ·exact PR.good_none
 ·intro P Ω hΩ hE hI hm args pr hs hp Q hQ
  unfold qgG at hs
  split at hs<;>subst hs<;>try (exact hp.elim)
  rename_i x y
  obtain⟨h1,h2,h3,h4⟩:=hp ()
  refine⟨1000,?_⟩
  cbv
  refine hQ () _ _ _ trivial ?_
  subst hΩ
  refine⟨⟨⟨rfl,?_⟩,⟨rfl,?_⟩,trivial⟩,rfl,rfl⟩
  ·have:=mul64_arith x y h1 h2 h3 h4
   simp only[Om.real,ua,um,qsb,qsd]
   unfold qdE
   exact this
  ·unfold qdF;exact um x y
end Tryz
end Go.Sx
end
section
set_option maxHeartbeats 4000000
namespace Go.Sx.Tryz
open Go.Proofs
def qdH (Ω:Om):qd:=fun args=>match args with
 | []=>⟨True,Unit,fun _=>True,fun _ =>.row .u64 8 [72057594037927935,72057594037927935,72057594037927935,72057594037927935,72057594037927934,72057594037927935,72057594037927935,72057594037927935]⟩
 | _=>PR.none
theorem qjR:Ctr Tryz.prog T glob 175 (qdH Om.real):=by
 refine qo T_ok qf qg (fun Ω=>[]) [] (fun Ω=>[]) [] qh qi qk ql Tryz.func175 (by rfl) (by kernel_rfl) Tryz.call175 ?_ ?_
 ·intro args;unfold qdH;split
  ·exact qt (by repeat' constructor) (fun _ _=>rfl) (by repeat' constructor)
  ·exact PR.good_none
 ·intro P Ω hΩ hE hI hm args pr hs hp Q hQ
  unfold qdH at hs
  split at hs<;>subst hs<;>try (exact hp.elim)
  refine⟨1000,?_⟩
  cbv
  repeat (refine qac hE hI hm (n:=1000) ?_;cbv)
  refine hQ () _ _ _ trivial ?_
  subst hΩ
  refine⟨rfl,rfl,?_⟩
  rfl
def qcs (Ω:Om):qd:=fun args=>match args with
 | [.row .u64 8 a]=>⟨∀ _:Unit,a.length=8,Unit,fun _=>True,fun _ =>.row .u64 8 (Ω.hide _ fun _=>qae a)⟩
 | _=>PR.none
theorem qeO:Ctr Tryz.prog T glob 174 (qcs Om.real):=by
 refine qo T_ok qf qg (fun Ω=>[]) [] (fun Ω=>[]) [] qh qi qk ql Tryz.func174 (by rfl) (by kernel_rfl) Tryz.call174 ?_ ?_
 ·intro args;unfold qcs;split
  ·exact qt (by repeat' constructor) (fun _ _=>rfl) (by repeat' constructor)
  ·exact PR.good_none
 ·intro P Ω hΩ hE hI hm args pr hs hp Q hQ
  unfold qcs at hs
  split at hs<;>subst hs<;>try (exact hp.elim)
  rename_i a
  refine⟨1000,?_⟩
  cbv
  refine qr hE hI hm (fun x:Nat × Int × List Int=>(mkT 44 [(1,.ptr 0 (.l 0)),(2,.ptr 8 (.l 0)),(3,.int .u64 x.2.1),(5,.int .i64 x.1)],[(8,.agg [.row .u64 8 [0,0,0,0,0,0,0,0]]),(0,.row .u64 8 x.2.2)])) (fun x=>x.1<=8/\x.2=qjE a x.1) (fun x=>8-x.1) 0 ⟨(0,0,a),[],⟨Nat.zero_le _,rfl⟩,Nat.le_refl _,by cbv;exact⟨rfl,trivial⟩⟩ fun x hx=>⟨1000,?_⟩
  obtain⟨i,o,u⟩:=x
  obtain⟨hi,hu⟩:i<=8/\(o,u)=qjE a i:=hx
  cbv
  constructor
  ·intro hc
   cbv
   rw[hΩ]at hc;simp (disch:=omega) only[Om.real,qc,decide_eq_true_eq,decide_eq_false_iff_not]at hc
   obtain⟨s',hs'⟩ : ∃ s',s'=qbf (o,u) i:=⟨_,rfl⟩
   repeat (refine⟨by ((try intro _);(try subst hΩ);simp (disch:=omega) only[Om.real,qc,SN.v];omega),?_⟩)
   refine⟨(i+1,s'),[],⟨hc,?_⟩,by simp only;omega,Nat.zero_le _,?_⟩
   ·rw[hs',hu];rfl
   cbv
   subst hΩ
   simp (disch:=omega) only[Om.real,qc]
   rw[hs']
   exact⟨rfl,trivial,rfl⟩
  ·intro hc
   cbv
   rw[hΩ]at hc;simp (disch:=omega) only[Om.real,qc,decide_eq_true_eq,decide_eq_false_iff_not]at hc
   have h8:i=8:=by omega
   subst h8
   refine hQ () _ _ _ trivial ?_
   subst hΩ
   have e:qae a=qgB (o,u):=by unfold qae;rw[show qgA a=(o,u) from hu.symm]
   refine⟨rfl,rfl,?_⟩
   rw[e];rfl
def qgH (Ω:Om):qd:=fun args=>match args with
 | [.row .u64 2 v,.row .u64 2 w]=>⟨∀ _:Unit,WN v/\WN w,Unit,fun _=>True,fun _ =>.row .u64 2 (Ω.hide _ fun _=>qN v w)⟩
 | [.row .u64 2 v,.agg [.lit .u64 0,.lit .u64 0]]=>⟨∀ _:Unit,WN v,Unit,fun _=>True,fun _ =>.row .u64 2 (Ω.hide _ fun _=>qN v [0,0])⟩
 | _=>PR.none
theorem qsm:Ctr Tryz.prog T glob 178 (qgH Om.real):=by
 refine qo T_ok qf qg (fun Ω=>[]) [] (fun Ω=>[]) [(227,qjP)] qh qi qk (qgj qnz ql) Tryz.func178 (by rfl) (by kernel_rfl) Tryz.call178 ?_ ?_
 ·intro args;unfold qgH;split
  ·exact qt (by repeat' constructor) (fun _ _=>rfl) (by repeat' constructor)
  ·exact qt (by repeat' constructor) (fun _ _=>rfl) (by repeat' constructor)
  ·exact PR.good_none
 ·intro P Ω hΩ hE hI hm args pr hs hp Q hQ
  unfold qgH at hs
  split at hs<;>subst hs<;>try (exact hp.elim)
  ·rename_i v w
   obtain⟨⟨a,b,rfl,a1,a2,a3,a4⟩,⟨c,d,rfl,c1,c2,c3,c4⟩⟩:=hp ()
   refine⟨1000,?_⟩
   cbv
   subst hΩ
   refine⟨fun _=>⟨a3,c3,by decide,by decide⟩,fun _=>⟨a1,c1,?_,?_⟩,?_⟩
   ·show 0<=(b+d+0) / 18446744073709551616;omega
   ·show(b+d+0) / 18446744073709551616<=1;omega
   refine hQ () _ _ _ trivial (qeM ?_)
   unfold qN wOf wv
   simp only[Om.real,List.getD,List.getElem?_cons_succ,List.getElem?_cons_zero,Option.getD_some,List.cons.injEq,and_true]
   constructor<;>omega
  ·rename_i v
   obtain⟨a,b,rfl,a1,a2,a3,a4⟩:=hp ()
   refine⟨1000,?_⟩
   cbv
   subst hΩ
   refine⟨fun _=>⟨a3,by decide,by decide,by decide⟩,fun _=>⟨a1,by decide,?_,?_⟩,?_⟩
   ·show 0<=(b+0+0) / 18446744073709551616;omega
   ·show(b+0+0) / 18446744073709551616<=1;omega
   refine hQ () _ _ _ trivial (qeM ?_)
   unfold qN wOf wv
   simp only[Om.real,List.getD,List.getElem?_cons_succ,List.getElem?_cons_zero,Option.getD_some,List.cons.injEq,and_true]
   constructor<;>omega
def qgI (Ω:Om):qd:=fun args=>match args with
 | [.row .u64 2 w,.int .u64 x,.int .u64 y]=>⟨∀ _:Unit,WN w/\(0<=x/\x<18446744073709551616)/\0<=y/\y<18446744073709551616,Unit,fun _=>True,fun _ =>.row .u64 2 (Ω.hide _ fun _=>qbD w x y)⟩
 | [.agg [.lit .u64 0,.lit .u64 0],.int .u64 x,.int .u64 y]=>⟨∀ _:Unit,(0<=x/\x<18446744073709551616)/\0<=y/\y<18446744073709551616,Unit,fun _=>True,fun _ =>.row .u64 2 (Ω.hide _ fun _=>qbD [0,0] x y)⟩
 | _=>PR.none
noncomputable def qsn:List (FuncId × Func):=[(178,Tryz.f178)]
theorem qso:Ctr Tryz.prog T glob 177 (qgI Om.real):=by
 refine qo T_ok qf qg (fun Ω=>[(228,qgG Ω)]) qsn (fun Ω=>[]) [(227,qjP)] (qb qsl qh) (qL Tryz.call178 Tryz.func178 (by kernel_rfl) qi) qk (qgj qnz ql) Tryz.func177 (by rfl) (by kernel_rfl) Tryz.call177 ?_ ?_
 ·intro args;unfold qgI;split
  ·exact qt (by repeat' constructor) (fun _ _=>rfl) (by repeat' constructor)
  ·exact qt (by repeat' constructor) (fun _ _=>rfl) (by repeat' constructor)
  ·exact PR.good_none
 ·intro P Ω hΩ hE hI hm args pr hs hp Q hQ
  unfold qgI at hs
  split at hs<;>subst hs<;>try (exact hp.elim)
  ·rename_i w x y
   obtain⟨⟨a,b,rfl,a1,a2,a3,a4⟩,⟨x1,x2⟩,y1,y2⟩:=hp ()
   have b1:0<=x*y:=Int.mul_nonneg x1 y1
   have b2:x*y<=18446744073709551615*18446744073709551615:=Int.mul_le_mul (by omega) (by omega) y1 (by decide)
   refine⟨1000,?_⟩
   cbv
   constructor
   ·exact fun _ _=>⟨x1,x2,y1,y2⟩
   intro _ _
   cbv
   subst hΩ
   have e1:qdE x y=x*y / 18446744073709551616:=by unfold qdE;rfl
   have e2:qdF x y=x*y % 18446744073709551616:=by unfold qdF;rfl
   rw[e1,e2]
   generalize hm':x*y=m at *
   refine⟨fun _=>⟨a3,(show 0<=m % 18446744073709551616 by omega),by decide,by decide⟩,fun _=>⟨a1,(show 0<=m / 18446744073709551616 by omega),?_,?_⟩,?_⟩
   ·show 0<=(b+m % 18446744073709551616+0) / 18446744073709551616;omega
   ·show(b+m % 18446744073709551616+0) / 18446744073709551616<=1;omega
   refine hQ () _ _ _ trivial (qeM ?_)
   show wOf _=_
   unfold wOf wv
   rw[hm']
   simp only[Om.real,List.getD,List.getElem?_cons_succ,List.getElem?_cons_zero,Option.getD_some,List.cons.injEq,and_true]
   constructor<;>omega
  ·rename_i x y
   obtain⟨⟨x1,x2⟩,y1,y2⟩:=hp ()
   have b1:0<=x*y:=Int.mul_nonneg x1 y1
   have b2:x*y<=18446744073709551615*18446744073709551615:=Int.mul_le_mul (by omega) (by omega) y1 (by decide)
   refine⟨1000,?_⟩
   cbv
   constructor
   ·exact fun _ _=>⟨x1,x2,y1,y2⟩
   intro _ _
   cbv
   subst hΩ
   have e1:qdE x y=x*y / 18446744073709551616:=by unfold qdE;rfl
   have e2:qdF x y=x*y % 18446744073709551616:=by unfold qdF;rfl
   rw[e1,e2]
   generalize hm':x*y=m at *
   refine⟨fun _=>⟨by decide,(show 0<=m % 18446744073709551616 by omega),by decide,by decide⟩,fun _=>⟨by decide,(show 0<=m / 18446744073709551616 by omega),?_,?_⟩,?_⟩
   ·show 0<=(0+m % 18446744073709551616+0) / 18446744073709551616;omega
   ·show(0+m % 18446744073709551616+0) / 18446744073709551616<=1;omega
   refine hQ () _ _ _ trivial (qeM ?_)
   show wOf _=_
   unfold wOf wv
   rw[hm']
   simp only[Om.real,List.getD,List.getElem?_cons_succ,List.getElem?_cons_zero,Option.getD_some,List.cons.injEq,and_true]
   constructor<;>omega
def qgJ (Ω:Om):qd:=fun args=>match args with
 | [.row .u64 2 w]=>⟨∀ _:Unit,WN w,Unit,fun _=>True,fun _ =>.row .u64 2 (Ω.hide _ fun _=>qa4 w)⟩
 | _=>PR.none
theorem qsp:Ctr Tryz.prog T glob 179 (qgJ Om.real):=by
 refine qo T_ok qf qg (fun Ω=>[]) [] (fun Ω=>[]) [] qh qi qk ql Tryz.func179 (by rfl) (by kernel_rfl) Tryz.call179 ?_ ?_
 ·intro args;unfold qgJ;split
  ·exact qt (by repeat' constructor) (fun _ _=>rfl) (by repeat' constructor)
  ·exact PR.good_none
 ·intro P Ω hΩ hE hI hm args pr hs hp Q hQ
  unfold qgJ at hs
  split at hs<;>subst hs<;>try (exact hp.elim)
  rename_i w
  obtain⟨a,b,rfl,a1,a2,a3,a4⟩:=hp ()
  refine⟨1000,?_⟩
  cbv
  subst hΩ
  refine hQ () _ _ _ trivial (qeM ?_)
  show wOf _=_
  unfold wOf wv
  have e1:binL .shr .u64 a 56=a / 72057594037927936:=qeJ a
  have e2:binL .shr .u64 b 56=b / 72057594037927936:=qeJ b
  have e3:binL .shl .u64 a 8=a*256 % 18446744073709551616:=IntKind.wrap_u64 _
  have e4:binL .or .u64 (a*256 % 18446744073709551616) (b / 72057594037927936)=a*256 % 18446744073709551616+b / 72057594037927936:=uor8 _ _ (by omega) (by omega) (by omega)
  simp only[Om.real,List.getD,List.getElem?_cons_succ,List.getElem?_cons_zero,Option.getD_some,List.cons.injEq,and_true,e1,e2,e3,e4]
  constructor<;>omega
end Go.Sx.Tryz
end
section
set_option maxHeartbeats 4000000
namespace Go.Sx.Tryz
open Go.Proofs
def qb4 (Ω:Om):qd:=fun args=>match args with
 | [.ab (.fe x),.ab (.fe y)]=>⟨True,Unit,fun _=>True,fun _ =>.ab (.fe (Ω.hide _ fun _=>x+y))⟩
 | _=>PR.none
noncomputable def qsq:List (FuncId × Func):=[(171,Tryz.f171),(173,Tryz.f173)]
theorem qdI:Ctr Tryz.prog T glob 78 (qb4 Om.real):=by
 refine qap T_ok qf qg (fun Ω=>[(174,qcs Ω)]) qsq (fun Ω=>[]) [] (qb qeO qh) (qL Tryz.call171 Tryz.func171 (by kernel_rfl) (qL Tryz.call173 Tryz.func173 (by kernel_rfl) qi)) qk ql Tryz.func78 (by rfl) (by kernel_rfl) Tryz.call78 ?_ ?_
 ·intro args;unfold qb4;split
  ·exact qt (by repeat' constructor) (fun _ _=>rfl) (by repeat' constructor)
  ·exact PR.good_none
 ·intro P Ω hΩ hE hI hm args pr hs hp cs hcs Q hQ
  unfold qb4 at hs
  split at hs<;>subst hs<;>try (exact hp.elim)
  rename_i x y
  obtain⟨_,_,rfl,⟨xs,rfl,hx⟩,_,_,rfl,⟨ys,rfl,hy⟩,rfl⟩:=hcs
  refine⟨1000,?_⟩
  cbv
  repeat (refine qac hE hI hm (n:=1000) ?_;cbv)
  constructor
  ·intro _ _;subst hΩ;rfl
  intro _ _
  cbv
  refine hQ () _ _ _ trivial ⟨rfl,?_⟩
  subst hΩ
  exact qsf hx hy
def qb5 (Ω:Om):qd:=fun args=>match args with
 | [.ab (.fe x),.ab (.fe y)]=>⟨True,Unit,fun _=>True,fun _ =>.ab (.fe (Ω.hide _ fun _=>x-y))⟩
 | [.agg [.row .u64 8 [0,0,0,0,0,0,0,0]],.ab (.fe y)]=>⟨True,Unit,fun _=>True,fun _ =>.ab (.fe (Ω.hide _ fun _ =>-y))⟩
 | _=>PR.none
noncomputable def qsr:List (FuncId × Func):=[(171,Tryz.f171),(176,Tryz.f176)]
theorem qdJ:Ctr Tryz.prog T glob 80 (qb5 Om.real):=by
 refine qap T_ok qf qg (fun Ω=>[(174,qcs Ω),(175,qdH Ω)]) qsr (fun Ω=>[]) [] (qb qeO (qb qjR qh)) (qL Tryz.call171 Tryz.func171 (by kernel_rfl) (qL Tryz.call176 Tryz.func176 (by kernel_rfl) qi)) qk ql Tryz.func80 (by rfl) (by kernel_rfl) Tryz.call80 ?_ ?_
 ·intro args;unfold qb5;split
  ·exact qt (by repeat' constructor) (fun _ _=>rfl) (by repeat' constructor)
  ·exact qt (by repeat' constructor) (fun _ _=>rfl) (by repeat' constructor)
  ·exact PR.good_none
 ·intro P Ω hΩ hE hI hm args pr hs hp cs hcs Q hQ
  unfold qb5 at hs
  split at hs<;>subst hs<;>try (exact hp.elim)
  ·rename_i x y
   obtain⟨_,_,rfl,⟨xs,rfl,hx⟩,_,_,rfl,⟨ys,rfl,hy⟩,rfl⟩:=hcs
   refine⟨1000,?_⟩
   cbv
   constructor
   ·exact fun _=>trivial
   intro _ _
   cbv
   repeat (refine qac hE hI hm (n:=1000) ?_;cbv)
   constructor
   ·intro _ _;subst hΩ;rfl
   intro _ _
   cbv
   refine hQ () _ _ _ trivial ⟨rfl,?_⟩
   subst hΩ
   exact qns hx hy
  ·rename_i y
   obtain⟨_,_,rfl,rfl,_,_,rfl,⟨ys,rfl,hy⟩,rfl⟩:=hcs
   refine⟨1000,?_⟩
   cbv
   constructor
   ·exact fun _=>trivial
   intro _ _
   cbv
   repeat (refine qac hE hI hm (n:=1000) ?_;cbv)
   constructor
   ·intro _ _;subst hΩ;rfl
   intro _ _
   cbv
   refine hQ () _ _ _ trivial ⟨rfl,?_⟩
   subst hΩ
   simp only[Om.real,List.set]
   exact qjI hy
def qdK (Ω:Om):qd:=fun args=>match args with
 | [.int .i64 b,.ab (.fe x),.ab (.fe y)]=>⟨True,Unit,fun _=>True,fun _ =>.ab (.fe (Ω.hide _ fun _=>if b % 2=0 then x else y))⟩
 | [.int .i64 b,.row .u64 8 xs,.row .u64 8 ys]=>⟨∀ _:Unit,U64 xs/\U64 ys,Unit,fun _=>True,fun _ =>.row .u64 8 (Ω.hide _ fun _=>if b % 2=0 then xs else ys)⟩
 | _=>PR.none
noncomputable def qss:List (FuncId × Func):=[(171,Tryz.f171),(243,Tryz.f243)]
theorem qjS:Ctr Tryz.prog T glob 182 (qdK Om.real):=by
 refine qap T_ok qf qg (fun Ω=>[]) qss (fun Ω=>[]) [] qh (qL Tryz.call171 Tryz.func171 (by kernel_rfl) (qL Tryz.call243 Tryz.func243 (by kernel_rfl) qi)) qk ql Tryz.func182 (by rfl) (by kernel_rfl) Tryz.call182 ?_ ?_
 ·intro args;unfold qdK;split
  ·exact qt (by repeat' constructor) (fun _ _=>rfl) (by repeat' constructor)
  ·exact qt (by repeat' constructor) (fun _ _=>rfl) (by repeat' constructor)
  ·exact PR.good_none
 ·intro P Ω hΩ hE hI hm args pr hs hp cs hcs Q hQ
  unfold qdK at hs
  split at hs<;>subst hs<;>try (exact hp.elim)
  ·rename_i b x y
   obtain⟨_,_,rfl,rfl,_,_,rfl,⟨xs,rfl,hx⟩,_,_,rfl,⟨ys,rfl,hy⟩,rfl⟩:=hcs
   refine⟨1000,?_⟩
   cbv
   repeat (refine qac hE hI hm (n:=1000) ?_;cbv)
   refine hQ () _ _ _ trivial ⟨rfl,?_⟩
   subst hΩ
   simp only[Om.real,List.set]
   exact qsj b hx hy
  ·rename_i b xs ys
   obtain⟨hx,hy⟩:=hp ()
   obtain⟨_,_,rfl,rfl,_,_,rfl,rfl,_,_,rfl,rfl,rfl⟩:=hcs
   refine⟨1000,?_⟩
   cbv
   repeat (refine qac hE hI hm (n:=1000) ?_;cbv)
   refine hQ () _ _ _ trivial ⟨rfl,rfl,?_⟩
   subst hΩ
   simp only[Om.real,List.set]
   exact qsi b hx hy
def qgK (Ω:Om):qd:=fun args=>match args with
 | [.roi .u8 bs]=>⟨∀ _:Unit,(∀ a ∈ bs,0<=a/\a<256),Bool,fun z=>z=(bs.length == 56),fun z=>match z with|true =>.tup [.ab (.fe (Ω.hide _ fun _=>fI (qe bs))),.lit .i64 0]|false =>.tup [.row .u64 8 [0,0,0,0,0,0,0,0],.lit .i64 11]⟩
 | _=>PR.none
noncomputable def qst:List (FuncId × Func):=[(171,Tryz.f171),(172,Tryz.f172)]
theorem qsu:Ctr Tryz.prog T glob 75 (qgK Om.real):=by
 refine qap T_ok qf qg (fun Ω=>[]) qst (fun Ω=>[]) [] qh (qL Tryz.call171 Tryz.func171 (by kernel_rfl) (qL Tryz.call172 Tryz.func172 (by kernel_rfl) qi)) qk ql Tryz.func75 (by rfl) (by kernel_rfl) Tryz.call75 ?_ ?_
 ·intro args;unfold qgK;split
  ·exact qba ⟨fun x=>by cases x<;>repeat' (first|exact trivial|constructor),fun E x b=>by cases x<;>rfl⟩ ⟨trivial,trivial⟩ (fun _=>⟨_,rfl⟩)
  ·exact PR.good_none
 ·intro P Ω hΩ hE hI hm args pr hs hp cs hcs Q hQ
  unfold qgK at hs
  split at hs<;>subst hs<;>try (exact hp.elim)
  rename_i bs
  have hb:=hp ()
  obtain⟨_,_,rfl,rfl,rfl⟩:=hcs
  refine⟨1000,?_⟩
  cbv
  constructor
  ·intro hc
   cbv
   rw[hΩ]at hc;simp (disch:=omega) only[Om.real,qc,decide_eq_true_eq,decide_eq_false_iff_not]at hc
   refine hQ false _ _ _ ?_ ?_
   ·show false=(bs.length == 56)
    cases h:bs.length == 56 with
    | false=>rfl
    | true=>exact absurd (eq_of_beq h) (by omega)
   ·exact⟨⟨⟨rfl,rfl,rfl⟩,⟨rfl,rfl⟩,trivial⟩,rfl,rfl⟩
  ·intro hc
   cbv
   rw[hΩ]at hc;simp (disch:=omega) only[Om.real,qc,decide_eq_true_eq,decide_eq_false_iff_not]at hc
   have hl:bs.length=56:=by
    apply Classical.byContradiction
    intro hne
    exact hne (by omega)
   have hlt : ∀ k,k<56->k<Ω.len bs:=fun k hk=>by subst hΩ;show k<bs.length;omega
   have hlt2 : ∀ k,k<=56->k<=bs.length:=fun k hk=>by omega
   repeat (first|(refine qac hE hI hm (n:=1000) ?_;cbv)|(constructor;exact fun _=>hlt _ (by decide);constructor;exact fun _=>hlt2 _ (by decide)))
   refine hQ true _ _ _ ?_ ?_
   ·show true=(bs.length == 56)
    rw[hl];rfl
   ·subst hΩ
    refine⟨⟨⟨rfl,?_⟩,⟨rfl,rfl⟩,trivial⟩,rfl,rfl⟩
    simp only[Om.real,List.set]
    exact qsk hl hb
end Go.Sx.Tryz
end
section
set_option maxHeartbeats 4000000
namespace Go.Sx.Tryz
open Go.Proofs
def qgL (Ω:Om):qd:=fun args=>match args with
 | [.row .u64 8 a]=>⟨∀ _:Unit,a.length=8,List Int × Nat,fun z=>z.1=rawL a/\z.1.length<=z.2,fun z =>.fr .u8 z.1 z.2⟩
 | _=>PR.none
theorem qsF:Ctr Tryz.prog T glob 188 (qgL Om.real):=by
 refine qo T_ok qf qg (fun Ω=>[]) [] (fun Ω=>[]) [] qh qi qk ql Tryz.func188 (by rfl) (by kernel_rfl) Tryz.call188 ?_ ?_
 ·intro args;unfold qgL;split
  ·exact qaE ⟨trivial,trivial⟩ fun _=>qa5 _
  ·exact PR.good_none
 ·intro P Ω hΩ hE hI hm args pr hs hp Q hQ
  unfold qgL at hs
  split at hs<;>subst hs<;>try (exact hp.elim)
  rename_i a
  have ha:=hp ()
  refine⟨1000,?_⟩
  cbv
  refine qr hE hI hm (fun x:Nat × List Int × Nat × Nat=>(mkT 26 [(2,.val (.slice none 0 0)),(3,.sl 48 1 (.l 0) (.s x.2.2.1) (.s x.2.2.2)),(8,.row .u64 8 a),(9,.int .i64 x.1)],[(48,.seq .u8 x.2.1)])) (fun x=>x.1<=8/\x.2.1=rawN a (7*x.1)/\x.2.2.1=7*x.1/\x.2.2.1<=x.2.2.2) (fun x=>8-x.1) 1 ⟨(0,[],0,0),[none],⟨Nat.zero_le _,rfl,rfl,Nat.le_refl _⟩,by decide,?_⟩ fun x hx=>⟨1000,?_⟩
  ·cbv
  obtain⟨i,u,n,c⟩:=x
  obtain⟨hi,hu,hn,hc⟩:i<=8/\u=rawN a (7*i)/\n=7*i/\n<=c:=hx
  cbv
  constructor
  ·intro hd
   cbv
   rw[hΩ]at hd;simp (disch:=omega) only[Om.real,qc,decide_eq_true_eq,decide_eq_false_iff_not]at hd
   repeat (refine⟨by ((try intro _);(try subst hΩ);simp (disch:=omega) only[Om.real,qc,SN.v];omega),?_⟩)
   refine qr hE hI hm (fun x:Nat × List Int × Nat × Nat=>(mkT 26 [(2,.val (.slice none 0 0)),(3,.sl 88 1 (.l 0) (.s x.2.2.1) (.s x.2.2.2)),(5,.int .u64 (Ω.at' a (Ω.toN i))),(8,.row .u64 8 a),(9,.int .i64 i),(12,.int .i64 x.1)],[(88,.seq .u8 x.2.1)])) (fun x=>x.1<=7/\x.2.1=rawN a (7*i+x.1)/\x.2.2.1=7*i+x.1/\x.2.2.1<=x.2.2.2) (fun x=>7-x.1) 1 ⟨(0,u,n,c),[some 48],⟨Nat.zero_le _,hu,hn,hc⟩,by decide,?_⟩ fun y hy=>⟨1000,?_⟩
   ·cbv
    exact⟨rfl,trivial⟩
   obtain⟨k,v,m,c2⟩:=y
   obtain⟨hk,hv,hm',hc2⟩:k<=7/\v=rawN a (7*i+k)/\m=7*i+k/\m<=c2:=hy
   have hvl:v.length=m:=by rw[hv,qgD,hm']
   cbv
   constructor
   ·intro he
    cbv
    rw[hΩ]at he;simp (disch:=omega) only[Om.real,qc,decide_eq_true_eq,decide_eq_false_iff_not]at he
    constructor
    ·intro _;subst hΩ;show 0<=binL .mul .i64 8 (k:Int);simp (disch:=omega) only[Om.real,qc];omega
    constructor
    ·exact fun _=>(show(m+1)*1<=140737488355328 by omega)
    constructor
    ·exact fun _=>⟨(show 0+m*1<=v.length by omega),(show 0+1*1<=1 by omega)⟩
    intro cap hcap
    have hcap:m+1<=cap:=hcap
    cbv
    obtain⟨v',hv'⟩ : ∃ v',v'=rawN a (7*i+k+1):=⟨_,rfl⟩
    obtain⟨m2,hm2⟩ : ∃ m2,m2=m+1:=⟨_,rfl⟩
    refine⟨(k+1,v',m2,cap),[some 176],⟨he,hv',?_,?_⟩,by simp only;omega,by decide,?_⟩
    ·show m2=7*i+(k+1);omega
    ·show m2<=cap;omega
    cbv
    subst hΩ
    simp (disch:=omega) only[Om.real,qc]
    refine⟨hm2.symm,trivial,?_⟩
    rw[List.drop_zero,List.take_of_length_le (by omega),hv',hv]
    show _=rawN a (7*i+k)++[qeN a (7*i+k)]
    congr 2
    unfold qeN
    rw[show(7*i+k) / 7=i by omega,show(7*i+k) % 7=k by omega,<- ushr _ (8*k) (by omega)]
    exact IntKind.wrap_u8 _
   ·intro he
    cbv
    rw[hΩ]at he;simp (disch:=omega) only[Om.real,qc,decide_eq_true_eq,decide_eq_false_iff_not]at he
    have hk7:k=7:=by omega
    subst hk7
    refine⟨(i+1,v,m,c2),[some 88],⟨hd,hv,hm',hc2⟩,by simp only;omega,by decide,?_⟩
    cbv
    subst hΩ
    simp (disch:=omega) only[Om.real,qc]
    exact⟨trivial,trivial⟩
  ·intro hd
   cbv
   rw[hΩ]at hd;simp (disch:=omega) only[Om.real,qc,decide_eq_true_eq,decide_eq_false_iff_not]at hd
   have h8:i=8:=by omega
   subst h8
   refine hQ (u,c) _ _ _ ?_ ?_
   ·unfold rawL
    exact⟨hu,by show u.length<=c;rw[hu,qgD];omega⟩
   ·have hul:u.length=n:=by rw[hu,qgD,hn]
    refine⟨rfl,rfl,by show 0+n<=u.length;omega,?_⟩
    subst hΩ
    show u=(u.drop 0).take n
    rw[List.drop_zero,List.take_of_length_le (by omega)]
end Go.Sx.Tryz
end
section
set_option maxHeartbeats 4000000
namespace Go.Sx.Tryz
open Go.Proofs
def qeP (Ω:Om):qd:=fun args=>match args with
 | [.ab (.fe x)]=>⟨True,Unit,fun _=>True,fun _ =>.row .u64 8 (Ω.hide _ fun _=>qaj x)⟩
 | _=>PR.none
theorem qnJ:Ctr Tryz.prog T glob 189 (qeP Om.real):=by
 refine qap T_ok qf qg (fun Ω=>[(174,qcs Ω),(175,qdH Ω),(182,qdK Ω)]) [] (fun Ω=>[]) [(245,qjQ)] (qb qeO (qb qjR (qb qjS qh))) qi qk (qgj qnA ql) Tryz.func189 (by rfl) (by kernel_rfl) Tryz.call189 ?_ ?_
 ·intro args;unfold qeP;split
  ·exact qt (by repeat' constructor) (fun _ _=>rfl) (by repeat' constructor)
  ·exact PR.good_none
 ·intro P Ω hΩ hE hI hm args pr hs hp cs hcs Q hQ
  unfold qeP at hs
  split at hs<;>subst hs<;>try (exact hp.elim)
  rename_i x
  obtain⟨_,_,rfl,⟨a,rfl,ha⟩,rfl⟩:=hcs
  refine⟨1000,?_⟩
  cbv
  constructor
  ·exact fun _ _=>ha.1
  intro _ _
  cbv
  constructor
  ·intro _ _;subst hΩ;exact(qjL a).trans ha.1
  intro _ _
  cbv
  constructor
  ·exact fun _=>trivial
  intro _ _
  cbv
  obtain⟨A,hA⟩ : ∃ A,A=qae (qae a):=⟨_,rfl⟩
  have hA8:A.length=8:=by rw[hA,qjL,qjL];exact ha.1
  have hAr : ∀ i,i<8->0<=A.getD i 0/\A.getD i 0<72057594037927936:=by rw[hA];exact qsv ha
  have hAU:U64 A:=by rw[hA];exact qsw ha
  refine qr hE hI hm (fun x:Nat × Int × List Int=>(mkT 41 [(1,.ptr 0 (.l 0)),(2,.ptr 8 (.l 0)),(3,.ptr 56 (.l 0)),(4,.int .u64 x.2.1),(5,.ptr 88 (.l 0)),(13,.int .i64 x.1)],[(88,.row .u64 8 x.2.2),(56,.row .u64 8 [72057594037927935,72057594037927935,72057594037927935,72057594037927935,72057594037927934,72057594037927935,72057594037927935,72057594037927935]),(8,.agg [.row .u64 8 [0,0,0,0,0,0,0,0]]),(0,.row .u64 8 A)])) (fun x=>x.1<=8/\x.2=qbg A x.1) (fun x=>8-x.1) 0 ⟨(0,0,A),[],⟨Nat.zero_le _,rfl⟩,Nat.le_refl _,?_⟩ fun x hx=>⟨1000,?_⟩
  ·cbv
   subst hΩ
   exact⟨rfl,hA.symm,hA.symm⟩
  obtain⟨i,o,u⟩:=x
  obtain⟨hi,hu⟩:i<=8/\(o,u)=qbg A i:=hx
  cbv
  constructor
  ·intro hc
   cbv
   rw[hΩ]at hc;simp (disch:=omega) only[Om.real,qc,decide_eq_true_eq,decide_eq_false_iff_not]at hc
   repeat (refine⟨by ((try intro _);(try subst hΩ);simp (disch:=omega) only[Om.real,qc,SN.v];omega),?_⟩)
   constructor
   ·intro _
    subst hΩ
    have h1:=hAr i hc
    refine⟨h1.1,?_,by decide,by decide,?_,?_⟩
    ·show 0<=binL .add .u64 _ _;rw[ua];omega
    ·show A.getD i 0<_;omega
    ·show binL .add .u64 _ _<_;rw[ua];omega
   repeat (refine⟨by ((try intro _);(try subst hΩ);simp (disch:=omega) only[Om.real,qc,SN.v];omega),?_⟩)
   obtain⟨s',hs'⟩ : ∃ s',s'=qbg A (i+1):=⟨_,rfl⟩
   refine⟨(i+1,s'),[],⟨hc,hs'⟩,by simp only;omega,Nat.zero_le _,?_⟩
   cbv
   subst hΩ
   simp (disch:=omega) only[Om.real,qc]
   rw[hs']
   simp only[qbg,<- hu]
   exact⟨rfl,trivial,rfl,trivial⟩
  ·intro hc
   cbv
   rw[hΩ]at hc;simp (disch:=omega) only[Om.real,qc,decide_eq_true_eq,decide_eq_false_iff_not]at hc
   have h8:i=8:=by omega
   subst h8
   constructor
   ·exact fun _ _=>⟨hAU,by have:=qnF hAU 8;rw[<- hu]at this;exact this⟩
   intro _ _
   cbv
   refine hQ () _ _ _ trivial ⟨rfl,rfl,?_⟩
   subst hΩ
   show(if IntKind.i64.wrap (binL .sub .u64 1 o) % 2=0 then A else u)=qaj x
   rw[<- qsx ha,<- hA]
   unfold qjK
   rw[<- hu]
def qeQ (Ω:Om):qd:=fun args=>match args with
 | [.ab (.fe x)]=>⟨True,List Int × Nat,fun z=>z.1=qah x/\z.1.length<=z.2,fun z =>.fr .u8 z.1 z.2⟩
 | _=>PR.none
theorem qnK:Ctr Tryz.prog T glob 98 (qeQ Om.real):=by
 refine qo T_ok qf qg (fun Ω=>[(189,qeP Ω),(188,qgL Ω)]) [] (fun Ω=>[]) [] (qb qnJ (qb qsF qh)) qi qk ql Tryz.func98 (by rfl) (by kernel_rfl) Tryz.call98 ?_ ?_
 ·intro args;unfold qeQ;split
  ·exact qaE ⟨trivial,trivial⟩ fun _=>qa5 _
  ·exact PR.good_none
 ·intro P Ω hΩ hE hI hm args pr hs hp Q hQ
  unfold qeQ at hs
  split at hs<;>subst hs<;>try (exact hp.elim)
  rename_i x
  refine⟨1000,?_⟩
  cbv
  constructor
  ·exact fun _=>trivial
  intro _ _
  cbv
  constructor
  ·intro _ _;subst hΩ;rfl
  intro z hz
  have hz:z.1=rawL (qaj x)/\z.1.length<=z.2:=by subst hΩ;exact hz
  cbv
  refine hQ z _ _ _ ⟨hz.1.trans (qsE x),hz.2⟩ ?_
  subst hΩ
  exact⟨rfl,rfl,by show 0+z.1.length<=z.1.length;omega,List.take_length.symm⟩
def qc7 (Ω:Om):qd:=fun args=>match args with
 | [.ab (.fe x)]=>⟨True,Unit,fun _=>True,fun _ =>.ab (.fe (Ω.hide _ fun _ =>-x))⟩
 | [.row .u64 8 a]=>⟨∀ _:Unit,(∃ x,okFe x a),Fp,fun x=>okFe x a,fun x =>.ab (.fe (Ω.hide _ fun _ =>-x))⟩
 | _=>PR.none
noncomputable def qsG:List (FuncId × Func):=[(80,Tryz.f80),(171,Tryz.f171),(176,Tryz.f176)]
theorem qgM:Ctr Tryz.prog T glob 81 (qc7 Om.real):=by
 refine qap T_ok qf qg (fun Ω=>[(174,qcs Ω),(175,qdH Ω)]) qsG (fun Ω=>[]) [] (qb qeO (qb qjR qh)) (qL Tryz.call80 Tryz.func80 (by kernel_rfl) (qL Tryz.call171 Tryz.func171 (by kernel_rfl) (qL Tryz.call176 Tryz.func176 (by kernel_rfl) qi))) qk ql Tryz.func81 (by rfl) (by kernel_rfl) Tryz.call81 ?_ ?_
 ·intro args;unfold qc7;split
  ·exact qt (by repeat' constructor) (fun _ _=>rfl) (by repeat' constructor)
  ·exact⟨fun _=>trivial,fun E x b q hq=>by simp[place]at hq,fun _=>⟨trivial,trivial⟩,fun h=>h ()⟩
  ·exact PR.good_none
 ·intro P Ω hΩ hE hI hm args pr hs hp cs hcs Q hQ
  unfold qc7 at hs
  split at hs<;>subst hs<;>try (exact hp.elim)
  ·rename_i x
   obtain⟨_,_,rfl,⟨ys,rfl,hy⟩,rfl⟩:=hcs
   refine⟨1000,?_⟩
   cbv
   constructor
   ·exact fun _=>trivial
   intro _ _
   cbv
   repeat (refine qac hE hI hm (n:=1000) ?_;cbv)
   constructor
   ·intro _ _;subst hΩ;rfl
   intro _ _
   cbv
   refine hQ () _ _ _ trivial ⟨rfl,?_⟩
   subst hΩ
   simp only[Om.real,List.set]
   exact qjI hy
  ·rename_i ys
   obtain⟨x,hy⟩:=hp ()
   obtain⟨_,_,rfl,rfl,rfl⟩:=hcs
   refine⟨1000,?_⟩
   cbv
   constructor
   ·exact fun _=>trivial
   intro _ _
   cbv
   repeat (refine qac hE hI hm (n:=1000) ?_;cbv)
   constructor
   ·intro _ _;subst hΩ;rfl
   intro _ _
   cbv
   refine hQ x _ _ _ hy ⟨rfl,?_⟩
   subst hΩ
   simp only[Om.real,List.set]
   exact qjI hy
def qbE (Ω:Om):qd:=fun args=>match args with
 | [.int .i64 n]=>⟨∀ _:Unit,-9223372036854775808<=n/\n<9223372036854775808,Unit,fun _=>True,fun _ =>.ab (.fe (Ω.hide _ fun _=>fI n))⟩
 | _=>PR.none
theorem qcw:Ctr Tryz.prog T glob 76 (qbE Om.real):=by
 refine qo T_ok qf qg (fun Ω=>[(81,qc7 Ω)]) [] (fun Ω=>[]) [] (qb qgM qh) qi qk ql Tryz.func76 (by rfl) (by kernel_rfl) Tryz.call76 ?_ ?_
 ·intro args;unfold qbE;split
  ·exact qt (by repeat' constructor) (fun _ _=>rfl) (by repeat' constructor)
  ·exact PR.good_none
 ·intro P Ω hΩ hE hI hm args pr hs hp Q hQ
  unfold qbE at hs
  split at hs<;>subst hs<;>try (exact hp.elim)
  rename_i n
  obtain⟨h0,h1⟩:=hp ()
  refine⟨1000,?_⟩
  cbv
  constructor
  ·intro hc
   cbv
   have hn:n<0:=by subst hΩ;exact of_decide_eq_true hc
   have hfe:okFe (fI (-n)) (Ω.set (Ω.set [0,0,0,0,0,0,0,0] 0 (Ω.bin .and .u64 (Ω.cv .u64 (Ω.un .neg .i64 n)) 72057594037927935)) 1 (Ω.bin .shr .u64 (Ω.cv .u64 (Ω.un .neg .i64 n)) 56)):=by
    subst hΩ
    exact qsz (by omega) hn
   constructor
   ·exact fun _ _=>⟨_,hfe⟩
   intro x hx
   have hx:okFe x _:=hx
   have hxe : -x=fI n:=by
    rw[<- hx.2.2,hfe.2.2,qgz];grind -lia -linarith -order -ac (splits:=0)
   cbv
   refine hQ () _ _ _ trivial ?_
   subst hΩ
   show Pay.fe (-x)=Pay.fe (fI n)
   rw[hxe]
  ·intro hc
   cbv
   have hn:0<=n:=by
    subst hΩ
    have:=of_decide_eq_false (show decide (n<0)=false from hc)
    omega
   refine hQ () _ _ _ trivial ⟨rfl,?_⟩
   subst hΩ
   exact qsy hn h1
def qeR (Ω:Om):qd:=fun args=>match args with
 | [.ab (.fe x)]=>⟨True,Unit,fun _=>True,fun _ =>.bs (Ω.hide _ fun _=>decide (x=0))⟩
 | _=>PR.none
theorem qnL:Ctr Tryz.prog T glob 106 (qeR Om.real):=by
 refine qo T_ok qf qg (fun Ω=>[(189,qeP Ω)]) [] (fun Ω=>[]) [] (qb qnJ qh) qi qk ql Tryz.func106 (by rfl) (by kernel_rfl) Tryz.call106 ?_ ?_
 ·intro args;unfold qeR;split
  ·exact qt (by repeat' constructor) (fun _ _=>rfl) (by repeat' constructor)
  ·exact PR.good_none
 ·intro P Ω hΩ hE hI hm args pr hs hp Q hQ
  unfold qeR at hs
  split at hs<;>subst hs<;>try (exact hp.elim)
  rename_i x
  refine⟨1000,?_⟩
  cbv
  constructor
  ·exact fun _=>trivial
  intro _ _
  cbv
  repeat (refine qac hE hI hm (n:=1000) ?_;cbv)
  refine hQ () _ _ _ trivial ?_
  subst hΩ
  exact qsB x
def qc8 (Ω:Om):qd:=fun args=>match args with
 | [.ab (.fe x),.ab (.fe y)]=>⟨True,Unit,fun _=>True,fun _ =>.bs (Ω.hide _ fun _=>decide (x=y))⟩
 | _=>PR.none
theorem qgN:Ctr Tryz.prog T glob 36 (qc8 Om.real):=by
 refine qo T_ok qf qg (fun Ω=>[(80,qb5 Ω),(106,qeR Ω)]) [] (fun Ω=>[]) [] (qb qdJ (qb qnL qh)) qi qk ql Tryz.func36 (by rfl) (by kernel_rfl) Tryz.call36 ?_ ?_
 ·intro args;unfold qc8;split
  ·exact qt (by repeat' constructor) (fun _ _=>rfl) (by repeat' constructor)
  ·exact PR.good_none
 ·intro P Ω hΩ hE hI hm args pr hs hp Q hQ
  unfold qc8 at hs
  split at hs<;>subst hs<;>try (exact hp.elim)
  rename_i x y
  refine⟨1000,?_⟩
  cbv
  constructor
  ·exact fun _=>trivial
  intro _ _
  cbv
  constructor
  ·exact fun _=>trivial
  intro _ _
  cbv
  refine hQ () _ _ _ trivial ?_
  subst hΩ
  show decide (x-y=0)=decide (x=y)
  congr 1
  exact propext ⟨fun h=>by grind -lia -linarith -order -ac (splits:=0),fun h=>by subst h;grind -lia -linarith -order -ac (splits:=0)⟩
end Go.Sx.Tryz
end
section
set_option maxHeartbeats 4000000
namespace Go.Sx.Tryz
open Go.Proofs
set_option pp.deepTerms true
set_option pp.maxSteps 1000000
def qaw (Ω:Om):qd:=fun args=>match args with
 | [.ab (.fe x),.ab (.fe y)]=>⟨True,Unit,fun _=>True,fun _ =>.ab (.fe (Ω.hide _ fun _=>x*y))⟩
 | _=>PR.none
theorem qaI:Ctr Tryz.prog T glob 84 (qaw Om.real):=by
 refine qap T_ok qf qg (fun Ω=>[(177,qgI Ω),(178,qgH Ω),(179,qgJ Ω),(174,qcs Ω)]) [] (fun Ω=>[]) [] (qb qso (qb qsm (qb qsp (qb qeO qh)))) qi qk ql Tryz.func84 (by rfl) (by kernel_rfl) Tryz.call84 ?_ ?_
 ·intro args;unfold qaw;split
  ·exact qt (by repeat' constructor) (fun _ _=>rfl) (by repeat' constructor)
  ·exact PR.good_none
 ·intro P Ω hΩ hE hI hm args pr hs hp cs hcs Q hQ
  unfold qaw at hs
  split at hs<;>subst hs<;>try (exact hp.elim)
  rename_i x y
  obtain⟨_,_,rfl,⟨xs,rfl,hx⟩,_,_,rfl,⟨ys,rfl,hy⟩,rfl⟩:=hcs
  refine⟨1000,?_⟩
  cbv
  have hx':okFe x xs:=hx
  have hy':okFe y ys:=hy
  have hxr:=qnO hx
  have hyr:=qnO hy
  refine qr hE hI hm (fun x:Nat × List Int=>(mkT 122 [(2,.ptr 0 (.l 0)),(3,.ptr 8 (.l 0)),(4,.ptr 16 (.l 0)),(5,.ptr 24 (.l 0)),(18,.row .u64 8 xs),(19,.int .i64 x.1)],[(24,.row .u64 30 x.2),(16,.agg [.row .u64 8 [0,0,0,0,0,0,0,0]]),(8,.row .u64 8 ys),(0,.row .u64 8 xs)])) (fun x=>x.1<=8/\Cells x.2 (8*x.1)/\tval x.2 15=psum xs x.1*psum ys 8) (fun x=>8-x.1) 0 ⟨(0,[0,0,0,0,0,0,0,0,0,0,0,0,0,0,0,0,0,0,0,0,0,0,0,0,0,0,0,0,0,0]),[],⟨Nat.zero_le _,qsJ,by rw[qsK];exact(Int.zero_mul _).symm⟩,Nat.le_refl _,by cbv;exact⟨rfl,trivial⟩⟩ fun x hx=>⟨1000,?_⟩
  obtain⟨i,all⟩:=x
  obtain⟨hi,hcs,hv⟩:i<=8/\Cells all (8*i)/\tval all 15=psum xs i*psum ys 8:=hx
  cbv
  constructor
  ·intro hc
   cbv
   rw[hΩ]at hc;simp (disch:=omega) only[Om.real,qc,decide_eq_true_eq,decide_eq_false_iff_not]at hc
   repeat (refine⟨by ((try intro _);(try subst hΩ);simp (disch:=omega) only[Om.real,qc,SN.v];omega),?_⟩)
   refine qr hE hI hm (fun x:Nat × List Int=>(mkT 122 [(2,.ptr 0 (.l 0)),(3,.ptr 8 (.l 0)),(4,.ptr 16 (.l 0)),(5,.ptr 24 (.l 0)),(6,.int .i64 i),(7,.int .u64 (Ω.at' xs (Ω.toN i))),(18,.row .u64 8 xs),(19,.int .i64 i),(24,.row .u64 8 ys),(25,.int .i64 x.1)],[(24,.row .u64 30 x.2),(16,.agg [.row .u64 8 [0,0,0,0,0,0,0,0]]),(8,.row .u64 8 ys),(0,.row .u64 8 xs)])) (fun x=>x.1<=8/\Cells x.2 (8*i+x.1)/\tval x.2 15=tval all 15+xs.getD i 0*72057594037927936^i*psum ys x.1) (fun x=>8-x.1) 0 ⟨(0,all),[],⟨Nat.zero_le _,(by simpa using hcs),by simp[psum]⟩,Nat.le_refl _,by cbv;exact⟨rfl,trivial⟩⟩ fun z hz=>⟨1000,?_⟩
   obtain⟨k,al2⟩:=z
   obtain⟨hk,hcs2,hv2⟩:k<=8/\Cells al2 (8*i+k)/\tval al2 15=tval all 15+xs.getD i 0*72057594037927936^i*psum ys k:=hz
   cbv
   constructor
   ·intro hd
    cbv
    rw[hΩ]at hd;simp (disch:=omega) only[Om.real,qc,decide_eq_true_eq,decide_eq_false_iff_not]at hd
    repeat (refine⟨by ((try intro _);(try subst hΩ);simp (disch:=omega) only[Om.real,qc,SN.v];omega),?_⟩)
    have hij:i+k<15:=by omega
    simp only[nc]at hcs2
    obtain⟨m1,m2⟩:=qsM hcs2 (by omega) hij (hxr i hc) (hyr k hd)
    have hcl:Ω.sub al2 (Ω.nmul (Ω.toN (Ω.bin .add .i64 (Int.ofNat i) (Int.ofNat k))) 2) 2=cell al2 (i+k):=by
     subst hΩ
     show(al2.drop ((binL .add .i64 (i:Int) (k:Int)).toNat*2)).take 2=_
     rw[qeB i k (by omega)];rfl
    constructor
    ·intro _ _
     refine⟨(show WN (Ω.sub al2 (Ω.nmul (Ω.toN (Ω.bin .add .i64 (Int.ofNat i) (Int.ofNat k))) 2) 2)by rw[hcl];exact(hcs2.2 _ hij).1),?_⟩
     subst hΩ
     have q1:=hxr i hc
     have q2:=hyr k hd
     refine⟨⟨q1.1,?_⟩,q2.1,?_⟩
     ·show xs.getD i 0<_;omega
     ·show ys.getD k 0<_;omega
    intro _ _
    cbv
    repeat (refine⟨by ((try intro _);(try subst hΩ);simp (disch:=omega) only[Om.real,qc,SN.v];omega),?_⟩)
    obtain⟨al3,hal3⟩ : ∃ al3,al3=putc al2 (i+k) (qbD (cell al2 (i+k)) (xs.getD i 0) (ys.getD k 0)):=⟨_,rfl⟩
    rw[<- hal3]at m1 m2
    simp only[nc]at m1
    refine⟨(k+1,al3),[],⟨hd,?_,?_⟩,by simp only;omega,Nat.zero_le _,?_⟩
    ·show Cells al3 (8*(i:Int)+((k+1:Nat):Int))
     exact qeT m1 (by omega)
    ·show tval al3 15=tval all 15+xs.getD i 0*72057594037927936^i*(psum ys k+ys.getD k 0*72057594037927936^k)
     rw[m2,hv2,Int.pow_add]
     grind
    cbv
    subst hΩ
    simp (disch:=omega) only[Om.real,qc]
    refine⟨trivial,?_,trivial⟩
    rw[hal3];rfl
   ·intro hd
    cbv
    rw[hΩ]at hd;simp (disch:=omega) only[Om.real,qc,decide_eq_true_eq,decide_eq_false_iff_not]at hd
    have hk8:k=8:=by omega
    simp only[nc]at hcs2
    refine⟨(i+1,al2),[],⟨hc,?_,?_⟩,by simp only;omega,Nat.zero_le _,?_⟩
    ·show Cells al2 (8*((i+1:Nat):Int))
     exact qeT hcs2 (by omega)
    ·show tval al2 15=(psum xs i+xs.getD i 0*72057594037927936^i)*psum ys 8
     rw[hv2,hv,Int.add_mul,hk8]
    cbv
    subst hΩ
    simp (disch:=omega) only[Om.real,qc]
    exact⟨trivial,trivial⟩
  ·intro hc
   cbv
   rw[hΩ]at hc;simp (disch:=omega) only[Om.real,qc,decide_eq_true_eq,decide_eq_false_iff_not]at hc
   have h8:i=8:=by omega
   subst h8
   simp only[nc]at hcs
   have hvx:fI (tval all 15)=x*y:=by rw[hv,qeK,qnN hx',qnN hy']
   refine qr hE hI hm (fun x:Nat × List Int=>(mkT 122 [(2,.ptr 0 (.l 0)),(3,.ptr 8 (.l 0)),(4,.ptr 16 (.l 0)),(5,.ptr 24 (.l 0)),(10,.int .i64 x.1)],[(24,.row .u64 30 x.2),(16,.agg [.row .u64 8 [0,0,0,0,0,0,0,0]])])) (fun z=>7<=z.1/\z.1<=14/\Cells z.2 (bnd z.1)/\fI (tval z.2 (z.1+1))=x*y) (fun x=>x.1-7) 0 ⟨(14,all),[],⟨(show 7<=14 by decide),(show 14<=14 by decide),qeT hcs (show(8*8:Int)<=bnd 14 by decide),hvx⟩,Nat.le_refl _,by cbv;exact⟨rfl,trivial⟩⟩ fun z hz=>⟨1000,?_⟩
   obtain⟨i,al2⟩:=z
   obtain⟨hi7,hi14,hcs2,hv2⟩:7<=i/\i<=14/\Cells al2 (bnd i)/\fI (tval al2 (i+1))=x*y:=hz
   clear hcs hv hvx
   cbv
   constructor
   ·intro hd
    cbv
    rw[hΩ]at hd;simp (disch:=omega) only[Om.real,qc,decide_eq_true_eq,decide_eq_false_iff_not]at hd
    repeat (refine⟨by ((try intro _);(try subst hΩ);simp (disch:=omega) only[Om.real,qc,SN.v];omega),?_⟩)
    have hi8:8<=i:=by omega
    obtain⟨p1,p2,p3⟩:=qsO i (by omega) hi8
    obtain⟨f1,f2⟩:=qsN hcs2 p1 p2 hi8 (by omega)
    obtain⟨a1,a2⟩:=hcs2.2 (i-8) (by omega)
    obtain⟨c1,c2⟩:=hcs2.2 i (by omega)
    have hc3:=qgP hcs2 (show i-8<15 by omega) (qc6 (cell al2 (i-8)) (cell al2 i)) (show bnd i<=2*bnd i by omega) (qjU a1 c1 a2 c2 p1).2
    constructor
    ·intro _ _
     subst hΩ
     simp (disch:=omega) only[Om.real,qc]
     exact⟨a1,c1⟩
    intro _ _
    cbv
    repeat (refine⟨by ((try intro _);(try subst hΩ);simp (disch:=omega) only[Om.real,qc,SN.v];omega),?_⟩)
    constructor
    ·intro _ _
     subst hΩ
     simp (disch:=omega) only[Om.real,qc]
     exact⟨(hc3.2 (i-4) (by omega)).1,(hc3.2 i (by omega)).1⟩
    intro _ _
    cbv
    repeat (refine⟨by ((try intro _);(try subst hΩ);simp (disch:=omega) only[Om.real,qc,SN.v];omega),?_⟩)
    obtain⟨al3,hal3⟩ : ∃ al3,al3=putc (putc al2 (i-8) (qN (cell al2 (i-8)) (cell al2 i))) (i-4) (qN (cell (putc al2 (i-8) (qN (cell al2 (i-8)) (cell al2 i))) (i-4)) (cell (putc al2 (i-8) (qN (cell al2 (i-8)) (cell al2 i))) i)):=⟨_,rfl⟩
    rw[<- hal3]at f1 f2
    obtain⟨i1,hi1⟩ : ∃ i1,i1=i-1:=⟨_,rfl⟩
    refine⟨(i1,al3),[],⟨?_,?_,?_,?_⟩,by simp only;omega,Nat.zero_le _,?_⟩
    ·show 7<=i1;omega
    ·show i1<=14;omega
    ·show Cells al3 (bnd i1);rw[hi1,p3];exact f1
    ·show fI (tval al3 (i1+1))=x*y
     rw[show i1+1=i by omega,f2,hv2]
    cbv
    subst hΩ
    simp (disch:=omega) only[Om.real,qc]
    refine⟨by omega,?_,trivial⟩
    rw[hal3];rfl
   ·intro hd
    cbv
    rw[hΩ]at hd;simp (disch:=omega) only[Om.real,qc,decide_eq_true_eq,decide_eq_false_iff_not]at hd
    have hk7:i=7:=by omega
    subst hk7
    have hc8:Cells al2 8192:=qeT hcs2 (show bnd 7<=8192 by decide)
    clear hcs2
    refine qr hE hI hm (fun x:Nat × List Int × List Int=>(mkT 122 [(4,.ptr 16 (.l 0)),(5,.ptr 24 (.l 0)),(11,.ptr 88 (.l 0)),(12,.ptr 96 (.l 0)),(13,.int .i64 x.1)],[(96,.row .u64 2 x.2.2),(88,.row .u64 8 x.2.1),(24,.row .u64 30 al2),(16,.agg [.row .u64 8 [0,0,0,0,0,0,0,0]])])) (fun z=>z.1<=7/\z.2.1.length=8/\WN z.2.2/\wv z.2.2<=4722366482869645213696/\(∀ j,j<z.1->0<=z.2.1.getD j 0/\z.2.1.getD j 0<72057594037927936)/\psum z.2.1 z.1+wv z.2.2*72057594037927936^z.1=tval al2 z.1) (fun x=>7-x.1) 0 ⟨(0,[0,0,0,0,0,0,0,0],[0,0]),[],⟨Nat.zero_le _,rfl,qnw,(show wv [0,0]<=_ by rw[qnx];decide),fun j hj=>absurd hj (Nat.not_lt_zero _),(show 0+wv [0,0]*72057594037927936^0=0 by rw[qnx];decide)⟩,Nat.le_refl _,?_⟩ fun z hz=>⟨1000,?_⟩
    ·cbv
     exact⟨rfl,qsQ,qsP rfl,trivial⟩
    obtain⟨i,u,o⟩:=z
    obtain⟨hi,hul,how,hob,hub,huv⟩:i<=7/\u.length=8/\WN o/\wv o<=4722366482869645213696/\(∀ j,j<i->0<=u.getD j 0/\u.getD j 0<72057594037927936)/\psum u i+wv o*72057594037927936^i=tval al2 i:=hz
    obtain⟨c1,c2⟩:=hc8.2 i (by omega)
    obtain⟨k1,k2,k3⟩:=qsR c1 how c2 hob
    cbv
    repeat (refine⟨by ((try intro _);(try subst hΩ);simp (disch:=omega) only[Om.real,qc,SN.v];omega),?_⟩)
    constructor
    ·intro _ _
     subst hΩ
     simp (disch:=omega) only[Om.real,qc]
     exact⟨c1,how⟩
    intro _ _
    cbv
    constructor
    ·intro _ _
     subst hΩ
     exact qc6 _ _
    intro _ _
    cbv
    repeat (refine⟨by ((try intro _);(try subst hΩ);simp (disch:=omega) only[Om.real,qc,SN.v];omega),?_⟩)
    obtain⟨u2,hu2⟩ : ∃ u2,u2=u.set i (binL .and .u64 ((qN (cell al2 i) o).getD 1 0) 72057594037927935):=⟨_,rfl⟩
    obtain⟨o2,ho2⟩ : ∃ o2,o2=qa4 (qN (cell al2 i) o):=⟨_,rfl⟩
    have g1:u2.length=8:=by rw[hu2,List.length_set];exact hul
    have g2:WN o2:=by rw[ho2];exact qnv _
    have g3:wv o2<=4722366482869645213696:=by rw[ho2];exact k3
    have g4 : ∀ j,j<i+1->0<=u2.getD j 0/\u2.getD j 0<72057594037927936:=fun j hj=>by
     rw[hu2]
     by_cases e:j=i
     ·subst e;rw[qnR (by omega)];exact k2
     ·rw[qsS (fun q=>e q.symm)];exact hub j (by omega)
    have g5:psum u2 (i+1)+wv o2*72057594037927936^(i+1)=tval al2 (i+1):=by
     rw[hu2,ho2]
     simp only[psum,tval]
     rw[qnQ i (Nat.le_refl _),qnR (by omega),<- huv,Int.pow_succ]
     generalize wv (qa4 (qN (cell al2 i) o))=q at k1 ⊢
     generalize binL .and .u64 ((qN (cell al2 i) o).getD 1 0) 72057594037927935=r at k1 ⊢
     have k4:wv (cell al2 i)=r+72057594037927936*q-wv o:=by omega
     rw[k4]
     grind
    constructor
    ·intro hd
     cbv
     rw[hΩ]at hd;simp (disch:=omega) only[Om.real,qc,decide_eq_true_eq,decide_eq_false_iff_not]at hd
     have hi7:i=7:=by omega
     constructor
     ·intro _ _
      subst hΩ
      exact qnv _
     intro _ _
     cbv
     constructor
     ·intro _ _
      subst hΩ
      simp only[Om.real,List.length_set]
      exact hul
     intro _ _
     cbv
     refine hQ () _ _ _ trivial ⟨rfl,?_⟩
     subst hΩ
     have fin:=qsT (z:=x*y) g1 (fun j hj=>g4 j (by omega)) g2 g3 (by rw[hi7]at g5;rw[<- hv2];exact congrArg fI g5)
     rw[hu2,ho2]at fin
     exact fin
    ·intro hd
     cbv
     rw[hΩ]at hd;simp (disch:=omega) only[Om.real,qc,decide_eq_true_eq,decide_eq_false_iff_not]at hd
     refine⟨(i+1,u2,o2),[],⟨?_,g1,g2,g3,g4,g5⟩,by simp only;omega,Nat.zero_le _,?_⟩
     ·show i+1<=7;omega
     cbv
     subst hΩ
     simp (disch:=omega) only[Om.real,qc]
     refine⟨trivial,?_,?_,trivial⟩
     ·rw[ho2];rfl
     ·rw[hu2];rfl
end Go.Sx.Tryz
end
