/-
  Part of the proof of a statement: the means.
-/
import Derived.Test.YtpnebmmjpapopaaGreatDoorX31
import Derived.Test.YtpnebmmjpapopaaGreatDoorX5
import Derived.Test.YtpnebmmjpapopaaGreatDoorX7
import Derived.KernelRfl
import Derived.Laws.MathBits
set_option linter.unusedSectionVars false
set_option linter.unusedVariables false
set_option linter.unusedSimpArgs false
set_option linter.deprecated false
section
set_option maxHeartbeats 4000000
namespace Go.Sx
def mkT (n:Nat) (l:List (Nat × SVal)):List SVal:=l.foldl (fun ts p=>setT ts p.1 p.2) (List.replicate n .junk)
theorem qia (a:Int):0<=IntKind.u64.wrap a:=by
 rw[IntKind.wrap_u64];omega
theorem qo {p:Prop} {r:SVal} {args:List SVal} (h:IdsLt noId r) (h2 : ∀ (E:Env) (b:Nat),(place E b r).2=[]) (hc:IdsLtL noId args):PR.Good ⟨p,Unit,fun _=>True,fun _=>r⟩ args :=
 ⟨fun _=>h,(fun E x b q hq=>by rw[h2 E b]at hq;cases hq),fun _=>hc,fun _=>⟨(),trivial⟩⟩
theorem qib {pr:PR} {args:List SVal} (h:(∀ x,IdsLt noId (pr.res x)) /\ ∀ E:Env,∀ x b,(place E b (pr.res x)).2=[]) (hc:IdsLtL noId args) (hx:pr.pre -> ∃ x,pr.post x):PR.Good pr args :=
 ⟨h.1,(fun E x b p hp=>by rw[h.2 E x b]at hp;cases hp),fun _=>hc,hx⟩
theorem qic {args:List SVal} {k:IntKind} {p:Prop} {post:Int->Prop} (hc:IdsLtL noId args) (h:p -> ∃ x,post x):PR.Good ⟨p,Int,post,fun z =>.int k z⟩ args :=
 ⟨fun _=>trivial,fun E x b q hq=>by simp[place]at hq,fun _=>hc,h⟩
theorem qlJ {args:List SVal} {p:Prop} {post:Bool->Prop} (hc:IdsLtL noId args) (h:p -> ∃ x,post x):PR.Good ⟨p,Bool,post,fun z =>.bs z⟩ args :=
 ⟨fun _=>trivial,fun E x b q hq=>by simp[place]at hq,fun _=>hc,h⟩
theorem qfs {args:List SVal} {k:IntKind} {n:Nat} {p:Prop} {post:List Int->Prop} (hc:IdsLtL noId args) (h:p -> ∃ x,post x):PR.Good ⟨p,List Int,post,fun z =>.row k n z⟩ args :=
 ⟨fun _=>trivial,fun E x b q hq=>by simp[place]at hq,fun _=>hc,h⟩
theorem qav {args:List SVal} {p:Prop} {k:IntKind} {post:List Int × Nat->Prop} (hc:IdsLtL noId args) (h:p -> ∃ x,post x):PR.Good ⟨p,List Int × Nat,post,fun z =>.fr k z.1 z.2⟩ args :=
 ⟨fun _=>trivial,fun E x b q hq=>by simp[place]at hq;subst hq;exact⟨Nat.le_refl _,by simp⟩,fun _=>hc,h⟩
theorem qaM (l:List Int) : ∃ x:List Int × Nat,x.1=l/\x.1.length<=x.2:=⟨(l,l.length),rfl,Nat.le_refl _⟩
theorem qh {P:Program} {T:TypeId->Option TI} {glob:Nat->SVal} : ∀ p ∈ ([]:List (FuncId × qe)),Ctr P T glob p.1 p.2:=fun p hp=>by cases hp
theorem qc {P:Program} {T:TypeId->Option TI} {glob:Nat->SVal} {g:FuncId} {s:qe} {l:List (FuncId × qe)} (h:Ctr P T glob g s) (hl : ∀ p ∈ l,Ctr P T glob p.1 p.2) : ∀ p ∈ (g,s) :: l,Ctr P T glob p.1 p.2:=fun p hp=>by
 rcases List.mem_cons.1 hp with rfl|hp
 ·exact h
 ·exact hl p hp
theorem qi {P:Program} : ∀ p ∈ ([]:List (FuncId × Func)),qX P p.1/\P.funcs[p.1]?=some p.2/\qx (qI p.2)=true:=fun p hp=>by cases hp
theorem qE {P:Program} {g:FuncId} {s:Func} {l:List (FuncId × Func)} (h:qX P g) (h1:P.funcs[g]?=some s) (h2:qx (qI s)=true) (hl : ∀ p ∈ l,qX P p.1/\P.funcs[p.1]?=some p.2/\qx (qI p.2)=true) :
  ∀ p ∈ (g,s) :: l,qX P p.1/\P.funcs[p.1]?=some p.2/\qx (qI p.2)=true:=fun p hp=>by
 rcases List.mem_cons.1 hp with rfl|hp
 ·exact⟨h,h1,h2⟩
 ·exact hl p hp
namespace Tryz
open Go.Proofs
def constants:List Int:=[1,32898,9223372036854808714,9223372039002292224,32907,2147483649,9223372039002292353,9223372036854808585,138,136,2147516425,2147483658,2147516555,9223372036854775947,9223372036854808713,9223372036854808579,9223372036854808578,9223372036854775936,32778,9223372039002259466,9223372039002292353,9223372036854808704,2147483649,9223372039002292232]
def way:List Int:=[10,7,11,17,18,3,5,16,8,21,24,4,15,23,19,13,12,2,20,14,22,9,6,1]
def offsets:List Int:=[1,3,6,10,15,21,28,36,45,55,2,14,27,41,56,8,25,43,62,18,39,61,20,44]
def glob:Nat->SVal
 | 0 =>.rop (.row .u64 24 constants) (.l 0)
 | 1 =>.rop (.row .i64 24 way) (.l 0)
 | 2 =>.rop (.row .i64 24 offsets) (.l 0)
 | _ =>.junk
theorem qf : ∀ g,IdsLt noId (glob g):=fun g=>by
 unfold glob
 split<;>trivial
theorem qg:Tryz.prog.follows .mixedOrders=true:=by rfl
def qid:XK :=.add
def qlK:XK :=.sub
theorem qlL:XOk Tryz.prog 227 qid:=x_of Tryz.func227 (by kernel_rfl) (by kernel_rfl) (by kernel_rfl) (by kernel_rfl)
theorem qqa:XOk Tryz.prog 245 qlK:=x_of Tryz.func245 (by kernel_rfl) (by kernel_rfl) (by kernel_rfl) (by kernel_rfl)
def qft (Ω:Om):qe:=fun args=>match args with
 | [.int .u64 x,.int .u64 y]=>⟨∀ _:Unit,0<=x/\x<18446744073709551616/\0<=y/\y<18446744073709551616,Unit,fun _=>True,fun _ =>.tup [.int .u64 (Ω.hide _ fun _=>(qcM x y)),.int .u64 (Ω.hide _ fun _=>(qcN x y))]⟩
 | _=>PR.none
theorem qqb:Ctr Tryz.prog T glob 228 (qft Om.real):=by
 refine qq T_ok qf qg (fun Ω=>[]) [] (fun Ω=>[]) [] qh qi qk ql Tryz.func228 (by rfl) (by kernel_rfl) Tryz.call228 ?_ ?_
 ·intro args;unfold qft;split
  ·exact qo (by repeat' constructor) (fun _ _=>rfl) (by repeat' constructor)
  ·exact PR.good_none
 ·intro P Ω hΩ hE hI hm args pr hs hp Q hQ
  unfold qft at hs
  split at hs<;>subst hs<;>try (exact hp.elim)
  rename_i x y
  obtain⟨h1,h2,h3,h4⟩:=hp ()
  refine⟨1000,?_⟩
  cbv
  refine hQ () _ _ _ trivial ?_
  subst hΩ
  refine⟨⟨⟨rfl,?_⟩,⟨rfl,?_⟩,trivial⟩,rfl,rfl⟩
  ·have:=mul64_arith x y h1 h2 h3 h4
   simp only[Om.real,ua,um,qp0,qp2]
   unfold qcM
   exact this
  ·unfold qcN;exact um x y
end Tryz
end Go.Sx
end
section
set_option maxHeartbeats 4000000
namespace Go.Sx.Tryz
open Go.Proofs
def qcP (Ω:Om):qe:=fun args=>match args with
 | []=>⟨True,Unit,fun _=>True,fun _ =>.row .u64 8 [72057594037927935,72057594037927935,72057594037927935,72057594037927935,72057594037927934,72057594037927935,72057594037927935,72057594037927935]⟩
 | _=>PR.none
theorem qie:Ctr Tryz.prog T glob 175 (qcP Om.real):=by
 refine qq T_ok qf qg (fun Ω=>[]) [] (fun Ω=>[]) [] qh qi qk ql Tryz.func175 (by rfl) (by kernel_rfl) Tryz.call175 ?_ ?_
 ·intro args;unfold qcP;split
  ·exact qo (by repeat' constructor) (fun _ _=>rfl) (by repeat' constructor)
  ·exact PR.good_none
 ·intro P Ω hΩ hE hI hm args pr hs hp Q hQ
  unfold qcP at hs
  split at hs<;>subst hs<;>try (exact hp.elim)
  refine⟨1000,?_⟩
  cbv
  repeat (refine qau hE hI hm (n:=1000) ?_;cbv)
  refine hQ () _ _ _ trivial ?_
  subst hΩ
  refine⟨rfl,rfl,?_⟩
  rfl
def qbR (Ω:Om):qe:=fun args=>match args with
 | [.row .u64 8 a]=>⟨∀ _:Unit,a.length=8,Unit,fun _=>True,fun _ =>.row .u64 8 (Ω.hide _ fun _=>qW a)⟩
 | _=>PR.none
theorem qdT:Ctr Tryz.prog T glob 174 (qbR Om.real):=by
 refine qq T_ok qf qg (fun Ω=>[]) [] (fun Ω=>[]) [] qh qi qk ql Tryz.func174 (by rfl) (by kernel_rfl) Tryz.call174 ?_ ?_
 ·intro args;unfold qbR;split
  ·exact qo (by repeat' constructor) (fun _ _=>rfl) (by repeat' constructor)
  ·exact PR.good_none
 ·intro P Ω hΩ hE hI hm args pr hs hp Q hQ
  unfold qbR at hs
  split at hs<;>subst hs<;>try (exact hp.elim)
  rename_i a
  refine⟨1000,?_⟩
  cbv
  refine qn hE hI hm (fun x:Nat × Int × List Int=>(mkT 44 [(1,.ptr 0 (.l 0)),(2,.ptr 8 (.l 0)),(3,.int .u64 x.2.1),(5,.int .i64 x.1)],[(8,.agg [.row .u64 8 [0,0,0,0,0,0,0,0]]),(0,.row .u64 8 x.2.2)])) (fun x=>x.1<=8/\x.2=qh1 a x.1) (fun x=>8-x.1) 0 ⟨(0,0,a),[],⟨Nat.zero_le _,rfl⟩,Nat.le_refl _,by cbv;exact⟨rfl,trivial⟩⟩ fun x hx=>⟨1000,?_⟩
  obtain⟨i,o,u⟩:=x
  obtain⟨hi,hu⟩:i<=8/\(o,u)=qh1 a i:=hx
  cbv
  constructor
  ·intro hc
   cbv
   rw[hΩ]at hc;simp (disch:=omega) only[Om.real,qb,decide_eq_true_eq,decide_eq_false_iff_not]at hc
   obtain⟨s',hs'⟩ : ∃ s',s'=qaU (o,u) i:=⟨_,rfl⟩
   repeat (refine⟨by ((try intro _);(try subst hΩ);simp (disch:=omega) only[Om.real,qb,SN.v];omega),?_⟩)
   refine⟨(i+1,s'),[],⟨hc,?_⟩,by simp only;omega,Nat.zero_le _,?_⟩
   ·rw[hs',hu];rfl
   cbv
   subst hΩ
   simp (disch:=omega) only[Om.real,qb]
   rw[hs']
   exact⟨rfl,trivial,rfl⟩
  ·intro hc
   cbv
   rw[hΩ]at hc;simp (disch:=omega) only[Om.real,qb,decide_eq_true_eq,decide_eq_false_iff_not]at hc
   have h8:i=8:=by omega
   subst h8
   refine hQ () _ _ _ trivial ?_
   subst hΩ
   have e:qW a=qfp (o,u):=by unfold qW;rw[show qfo a=(o,u) from hu.symm]
   refine⟨rfl,rfl,?_⟩
   rw[e];rfl
def qfu (Ω:Om):qe:=fun args=>match args with
 | [.row .u64 2 v,.row .u64 2 w]=>⟨∀ _:Unit,WN v/\WN w,Unit,fun _=>True,fun _ =>.row .u64 2 (Ω.hide _ fun _=>qJ v w)⟩
 | [.row .u64 2 v,.agg [.lit .u64 0,.lit .u64 0]]=>⟨∀ _:Unit,WN v,Unit,fun _=>True,fun _ =>.row .u64 2 (Ω.hide _ fun _=>qJ v [0,0])⟩
 | _=>PR.none
theorem qqc:Ctr Tryz.prog T glob 178 (qfu Om.real):=by
 refine qq T_ok qf qg (fun Ω=>[]) [] (fun Ω=>[]) [(227,qid)] qh qi qk (qhC qlL ql) Tryz.func178 (by rfl) (by kernel_rfl) Tryz.call178 ?_ ?_
 ·intro args;unfold qfu;split
  ·exact qo (by repeat' constructor) (fun _ _=>rfl) (by repeat' constructor)
  ·exact qo (by repeat' constructor) (fun _ _=>rfl) (by repeat' constructor)
  ·exact PR.good_none
 ·intro P Ω hΩ hE hI hm args pr hs hp Q hQ
  unfold qfu at hs
  split at hs<;>subst hs<;>try (exact hp.elim)
  ·rename_i v w
   obtain⟨⟨a,b,rfl,a1,a2,a3,a4⟩,⟨c,d,rfl,c1,c2,c3,c4⟩⟩:=hp ()
   refine⟨1000,?_⟩
   cbv
   subst hΩ
   refine⟨fun _=>⟨a3,c3,by decide,by decide⟩,fun _=>⟨a1,c1,?_,?_⟩,?_⟩
   ·show 0<=(b+d+0) / 18446744073709551616;omega
   ·show(b+d+0) / 18446744073709551616<=1;omega
   refine hQ () _ _ _ trivial (qdR ?_)
   unfold qJ wOf wv
   simp only[Om.real,List.getD,List.getElem?_cons_succ,List.getElem?_cons_zero,Option.getD_some,List.cons.injEq,and_true]
   constructor<;>omega
  ·rename_i v
   obtain⟨a,b,rfl,a1,a2,a3,a4⟩:=hp ()
   refine⟨1000,?_⟩
   cbv
   subst hΩ
   refine⟨fun _=>⟨a3,by decide,by decide,by decide⟩,fun _=>⟨a1,by decide,?_,?_⟩,?_⟩
   ·show 0<=(b+0+0) / 18446744073709551616;omega
   ·show(b+0+0) / 18446744073709551616<=1;omega
   refine hQ () _ _ _ trivial (qdR ?_)
   unfold qJ wOf wv
   simp only[Om.real,List.getD,List.getElem?_cons_succ,List.getElem?_cons_zero,Option.getD_some,List.cons.injEq,and_true]
   constructor<;>omega
def qfv (Ω:Om):qe:=fun args=>match args with
 | [.row .u64 2 w,.int .u64 x,.int .u64 y]=>⟨∀ _:Unit,WN w/\(0<=x/\x<18446744073709551616)/\0<=y/\y<18446744073709551616,Unit,fun _=>True,fun _ =>.row .u64 2 (Ω.hide _ fun _=>qbd w x y)⟩
 | [.agg [.lit .u64 0,.lit .u64 0],.int .u64 x,.int .u64 y]=>⟨∀ _:Unit,(0<=x/\x<18446744073709551616)/\0<=y/\y<18446744073709551616,Unit,fun _=>True,fun _ =>.row .u64 2 (Ω.hide _ fun _=>qbd [0,0] x y)⟩
 | _=>PR.none
noncomputable def qqd:List (FuncId × Func):=[(178,Tryz.f178)]
theorem qqe:Ctr Tryz.prog T glob 177 (qfv Om.real):=by
 refine qq T_ok qf qg (fun Ω=>[(228,qft Ω)]) qqd (fun Ω=>[]) [(227,qid)] (qc qqb qh) (qE Tryz.call178 Tryz.func178 (by kernel_rfl) qi) qk (qhC qlL ql) Tryz.func177 (by rfl) (by kernel_rfl) Tryz.call177 ?_ ?_
 ·intro args;unfold qfv;split
  ·exact qo (by repeat' constructor) (fun _ _=>rfl) (by repeat' constructor)
  ·exact qo (by repeat' constructor) (fun _ _=>rfl) (by repeat' constructor)
  ·exact PR.good_none
 ·intro P Ω hΩ hE hI hm args pr hs hp Q hQ
  unfold qfv at hs
  split at hs<;>subst hs<;>try (exact hp.elim)
  ·rename_i w x y
   obtain⟨⟨a,b,rfl,a1,a2,a3,a4⟩,⟨x1,x2⟩,y1,y2⟩:=hp ()
   have b1:0<=x*y:=Int.mul_nonneg x1 y1
   have b2:x*y<=18446744073709551615*18446744073709551615:=Int.mul_le_mul (by omega) (by omega) y1 (by decide)
   refine⟨1000,?_⟩
   cbv
   constructor
   ·exact fun _ _=>⟨x1,x2,y1,y2⟩
   intro _ _
   cbv
   subst hΩ
   have e1:qcM x y=x*y / 18446744073709551616:=by unfold qcM;rfl
   have e2:qcN x y=x*y % 18446744073709551616:=by unfold qcN;rfl
   rw[e1,e2]
   generalize hm':x*y=m at *
   refine⟨fun _=>⟨a3,(show 0<=m % 18446744073709551616 by omega),by decide,by decide⟩,fun _=>⟨a1,(show 0<=m / 18446744073709551616 by omega),?_,?_⟩,?_⟩
   ·show 0<=(b+m % 18446744073709551616+0) / 18446744073709551616;omega
   ·show(b+m % 18446744073709551616+0) / 18446744073709551616<=1;omega
   refine hQ () _ _ _ trivial (qdR ?_)
   show wOf _=_
   unfold wOf wv
   rw[hm']
   simp only[Om.real,List.getD,List.getElem?_cons_succ,List.getElem?_cons_zero,Option.getD_some,List.cons.injEq,and_true]
   constructor<;>omega
  ·rename_i x y
   obtain⟨⟨x1,x2⟩,y1,y2⟩:=hp ()
   have b1:0<=x*y:=Int.mul_nonneg x1 y1
   have b2:x*y<=18446744073709551615*18446744073709551615:=Int.mul_le_mul (by omega) (by omega) y1 (by decide)
   refine⟨1000,?_⟩
   cbv
   constructor
   ·exact fun _ _=>⟨x1,x2,y1,y2⟩
   intro _ _
   cbv
   subst hΩ
   have e1:qcM x y=x*y / 18446744073709551616:=by unfold qcM;rfl
   have e2:qcN x y=x*y % 18446744073709551616:=by unfold qcN;rfl
   rw[e1,e2]
   generalize hm':x*y=m at *
   refine⟨fun _=>⟨by decide,(show 0<=m % 18446744073709551616 by omega),by decide,by decide⟩,fun _=>⟨by decide,(show 0<=m / 18446744073709551616 by omega),?_,?_⟩,?_⟩
   ·show 0<=(0+m % 18446744073709551616+0) / 18446744073709551616;omega
   ·show(0+m % 18446744073709551616+0) / 18446744073709551616<=1;omega
   refine hQ () _ _ _ trivial (qdR ?_)
   show wOf _=_
   unfold wOf wv
   rw[hm']
   simp only[Om.real,List.getD,List.getElem?_cons_succ,List.getElem?_cons_zero,Option.getD_some,List.cons.injEq,and_true]
   constructor<;>omega
def qfw (Ω:Om):qe:=fun args=>match args with
 | [.row .u64 2 w]=>⟨∀ _:Unit,WN w,Unit,fun _=>True,fun _ =>.row .u64 2 (Ω.hide _ fun _=>qaL w)⟩
 | _=>PR.none
theorem qqf:Ctr Tryz.prog T glob 179 (qfw Om.real):=by
 refine qq T_ok qf qg (fun Ω=>[]) [] (fun Ω=>[]) [] qh qi qk ql Tryz.func179 (by rfl) (by kernel_rfl) Tryz.call179 ?_ ?_
 ·intro args;unfold qfw;split
  ·exact qo (by repeat' constructor) (fun _ _=>rfl) (by repeat' constructor)
  ·exact PR.good_none
 ·intro P Ω hΩ hE hI hm args pr hs hp Q hQ
  unfold qfw at hs
  split at hs<;>subst hs<;>try (exact hp.elim)
  rename_i w
  obtain⟨a,b,rfl,a1,a2,a3,a4⟩:=hp ()
  refine⟨1000,?_⟩
  cbv
  subst hΩ
  refine hQ () _ _ _ trivial (qdR ?_)
  show wOf _=_
  unfold wOf wv
  have e1:binL .shr .u64 a 56=a / 72057594037927936:=qdO a
  have e2:binL .shr .u64 b 56=b / 72057594037927936:=qdO b
  have e3:binL .shl .u64 a 8=a*256 % 18446744073709551616:=IntKind.wrap_u64 _
  have e4:binL .or .u64 (a*256 % 18446744073709551616) (b / 72057594037927936)=a*256 % 18446744073709551616+b / 72057594037927936:=uor8 _ _ (by omega) (by omega) (by omega)
  simp only[Om.real,List.getD,List.getElem?_cons_succ,List.getElem?_cons_zero,Option.getD_some,List.cons.injEq,and_true,e1,e2,e3,e4]
  constructor<;>omega
end Go.Sx.Tryz
end
section
set_option maxHeartbeats 4000000
namespace Go.Sx.Tryz
open Go.Proofs
def qdU (Ω:Om):qe:=fun args=>match args with
 | [.ab (.fe x),.ab (.fe y)]=>⟨True,Unit,fun _=>True,fun _ =>.ab (.fe (Ω.hide _ fun _=>x+y))⟩
 | _=>PR.none
noncomputable def qqg:List (FuncId × Func):=[(171,Tryz.f171),(173,Tryz.f173)]
theorem qlM:Ctr Tryz.prog T glob 78 (qdU Om.real):=by
 refine qao T_ok qf qg (fun Ω=>[(174,qbR Ω)]) qqg (fun Ω=>[]) [] (qc qdT qh) (qE Tryz.call171 Tryz.func171 (by kernel_rfl) (qE Tryz.call173 Tryz.func173 (by kernel_rfl) qi)) qk ql Tryz.func78 (by rfl) (by kernel_rfl) Tryz.call78 ?_ ?_
 ·intro args;unfold qdU;split
  ·exact qo (by repeat' constructor) (fun _ _=>rfl) (by repeat' constructor)
  ·exact PR.good_none
 ·intro P Ω hΩ hE hI hm args pr hs hp cs hcs Q hQ
  unfold qdU at hs
  split at hs<;>subst hs<;>try (exact hp.elim)
  rename_i x y
  obtain⟨_,_,rfl,⟨xs,rfl,hx⟩,_,_,rfl,⟨ys,rfl,hy⟩,rfl⟩:=hcs
  refine⟨1000,?_⟩
  cbv
  repeat (refine qau hE hI hm (n:=1000) ?_;cbv)
  constructor
  ·intro _ _;subst hΩ;rfl
  intro _ _
  cbv
  refine hQ () _ _ _ trivial ⟨rfl,?_⟩
  subst hΩ
  exact qp4 hx hy
def qdV (Ω:Om):qe:=fun args=>match args with
 | [.ab (.fe x),.ab (.fe y)]=>⟨True,Unit,fun _=>True,fun _ =>.ab (.fe (Ω.hide _ fun _=>x-y))⟩
 | [.agg [.row .u64 8 [0,0,0,0,0,0,0,0]],.ab (.fe y)]=>⟨True,Unit,fun _=>True,fun _ =>.ab (.fe (Ω.hide _ fun _ =>-y))⟩
 | _=>PR.none
noncomputable def qqh:List (FuncId × Func):=[(171,Tryz.f171),(176,Tryz.f176)]
theorem qlN:Ctr Tryz.prog T glob 80 (qdV Om.real):=by
 refine qao T_ok qf qg (fun Ω=>[(174,qbR Ω),(175,qcP Ω)]) qqh (fun Ω=>[]) [] (qc qdT (qc qie qh)) (qE Tryz.call171 Tryz.func171 (by kernel_rfl) (qE Tryz.call176 Tryz.func176 (by kernel_rfl) qi)) qk ql Tryz.func80 (by rfl) (by kernel_rfl) Tryz.call80 ?_ ?_
 ·intro args;unfold qdV;split
  ·exact qo (by repeat' constructor) (fun _ _=>rfl) (by repeat' constructor)
  ·exact qo (by repeat' constructor) (fun _ _=>rfl) (by repeat' constructor)
  ·exact PR.good_none
 ·intro P Ω hΩ hE hI hm args pr hs hp cs hcs Q hQ
  unfold qdV at hs
  split at hs<;>subst hs<;>try (exact hp.elim)
  ·rename_i x y
   obtain⟨_,_,rfl,⟨xs,rfl,hx⟩,_,_,rfl,⟨ys,rfl,hy⟩,rfl⟩:=hcs
   refine⟨1000,?_⟩
   cbv
   constructor
   ·exact fun _=>trivial
   intro _ _
   cbv
   repeat (refine qau hE hI hm (n:=1000) ?_;cbv)
   constructor
   ·intro _ _;subst hΩ;rfl
   intro _ _
   cbv
   refine hQ () _ _ _ trivial ⟨rfl,?_⟩
   subst hΩ
   exact qlC hx hy
  ·rename_i y
   obtain⟨_,_,rfl,rfl,_,_,rfl,⟨ys,rfl,hy⟩,rfl⟩:=hcs
   refine⟨1000,?_⟩
   cbv
   constructor
   ·exact fun _=>trivial
   intro _ _
   cbv
   repeat (refine qau hE hI hm (n:=1000) ?_;cbv)
   constructor
   ·intro _ _;subst hΩ;rfl
   intro _ _
   cbv
   refine hQ () _ _ _ trivial ⟨rfl,?_⟩
   subst hΩ
   simp only[Om.real,List.set]
   exact qh5 hy
def qdW (Ω:Om):qe:=fun args=>match args with
 | [.int .i64 b,.ab (.fe x),.ab (.fe y)]=>⟨True,Unit,fun _=>True,fun _ =>.ab (.fe (Ω.hide _ fun _=>if b % 2=0 then x else y))⟩
 | [.int .i64 b,.row .u64 8 xs,.row .u64 8 ys]=>⟨∀ _:Unit,U64 xs/\U64 ys,Unit,fun _=>True,fun _ =>.row .u64 8 (Ω.hide _ fun _=>if b % 2=0 then xs else ys)⟩
 | _=>PR.none
noncomputable def qqi:List (FuncId × Func):=[(171,Tryz.f171),(243,Tryz.f243)]
theorem qlO:Ctr Tryz.prog T glob 182 (qdW Om.real):=by
 refine qao T_ok qf qg (fun Ω=>[]) qqi (fun Ω=>[]) [] qh (qE Tryz.call171 Tryz.func171 (by kernel_rfl) (qE Tryz.call243 Tryz.func243 (by kernel_rfl) qi)) qk ql Tryz.func182 (by rfl) (by kernel_rfl) Tryz.call182 ?_ ?_
 ·intro args;unfold qdW;split
  ·exact qo (by repeat' constructor) (fun _ _=>rfl) (by repeat' constructor)
  ·exact qo (by repeat' constructor) (fun _ _=>rfl) (by repeat' constructor)
  ·exact PR.good_none
 ·intro P Ω hΩ hE hI hm args pr hs hp cs hcs Q hQ
  unfold qdW at hs
  split at hs<;>subst hs<;>try (exact hp.elim)
  ·rename_i b x y
   obtain⟨_,_,rfl,rfl,_,_,rfl,⟨xs,rfl,hx⟩,_,_,rfl,⟨ys,rfl,hy⟩,rfl⟩:=hcs
   refine⟨1000,?_⟩
   cbv
   repeat (refine qau hE hI hm (n:=1000) ?_;cbv)
   refine hQ () _ _ _ trivial ⟨rfl,?_⟩
   subst hΩ
   simp only[Om.real,List.set]
   exact qp8 b hx hy
  ·rename_i b xs ys
   obtain⟨hx,hy⟩:=hp ()
   obtain⟨_,_,rfl,rfl,_,_,rfl,rfl,_,_,rfl,rfl,rfl⟩:=hcs
   refine⟨1000,?_⟩
   cbv
   repeat (refine qau hE hI hm (n:=1000) ?_;cbv)
   refine hQ () _ _ _ trivial ⟨rfl,rfl,?_⟩
   subst hΩ
   simp only[Om.real,List.set]
   exact qp7 b hx hy
def qfx (Ω:Om):qe:=fun args=>match args with
 | [.roi .u8 bs]=>⟨∀ _:Unit,(∀ a ∈ bs,0<=a/\a<256),Bool,fun z=>z=(bs.length == 56),fun z=>match z with|true =>.tup [.ab (.fe (Ω.hide _ fun _=>fI (qK bs))),.lit .i64 0]|false =>.tup [.row .u64 8 [0,0,0,0,0,0,0,0],.lit .i64 11]⟩
 | _=>PR.none
noncomputable def qqj:List (FuncId × Func):=[(171,Tryz.f171),(172,Tryz.f172)]
theorem qqk:Ctr Tryz.prog T glob 75 (qfx Om.real):=by
 refine qao T_ok qf qg (fun Ω=>[]) qqj (fun Ω=>[]) [] qh (qE Tryz.call171 Tryz.func171 (by kernel_rfl) (qE Tryz.call172 Tryz.func172 (by kernel_rfl) qi)) qk ql Tryz.func75 (by rfl) (by kernel_rfl) Tryz.call75 ?_ ?_
 ·intro args;unfold qfx;split
  ·exact qib ⟨fun x=>by cases x<;>repeat' (first|exact trivial|constructor),fun E x b=>by cases x<;>rfl⟩ ⟨trivial,trivial⟩ (fun _=>⟨_,rfl⟩)
  ·exact PR.good_none
 ·intro P Ω hΩ hE hI hm args pr hs hp cs hcs Q hQ
  unfold qfx at hs
  split at hs<;>subst hs<;>try (exact hp.elim)
  rename_i bs
  have hb:=hp ()
  obtain⟨_,_,rfl,rfl,rfl⟩:=hcs
  refine⟨1000,?_⟩
  cbv
  constructor
  ·intro hc
   cbv
   rw[hΩ]at hc;simp (disch:=omega) only[Om.real,qb,decide_eq_true_eq,decide_eq_false_iff_not]at hc
   refine hQ false _ _ _ ?_ ?_
   ·show false=(bs.length == 56)
    cases h:bs.length == 56 with
    | false=>rfl
    | true=>exact absurd (eq_of_beq h) (by omega)
   ·exact⟨⟨⟨rfl,rfl,rfl⟩,⟨rfl,rfl⟩,trivial⟩,rfl,rfl⟩
  ·intro hc
   cbv
   rw[hΩ]at hc;simp (disch:=omega) only[Om.real,qb,decide_eq_true_eq,decide_eq_false_iff_not]at hc
   have hl:bs.length=56:=by
    apply Classical.byContradiction
    intro hne
    exact hne (by omega)
   have hlt : ∀ k,k<56->k<Ω.len bs:=fun k hk=>by subst hΩ;show k<bs.length;omega
   have hlt2 : ∀ k,k<=56->k<=bs.length:=fun k hk=>by omega
   repeat (first|(refine qau hE hI hm (n:=1000) ?_;cbv)|(constructor;exact fun _=>hlt _ (by decide);constructor;exact fun _=>hlt2 _ (by decide)))
   refine hQ true _ _ _ ?_ ?_
   ·show true=(bs.length == 56)
    rw[hl];rfl
   ·subst hΩ
    refine⟨⟨⟨rfl,?_⟩,⟨rfl,rfl⟩,trivial⟩,rfl,rfl⟩
    simp only[Om.real,List.set]
    exact qp9 hl hb
end Go.Sx.Tryz
end
section
set_option maxHeartbeats 4000000
namespace Go.Sx.Tryz
open Go.Proofs
def qfy (Ω:Om):qe:=fun args=>match args with
 | [.row .u64 8 a]=>⟨∀ _:Unit,a.length=8,List Int × Nat,fun z=>z.1=rawL a/\z.1.length<=z.2,fun z =>.fr .u8 z.1 z.2⟩
 | _=>PR.none
theorem qqu:Ctr Tryz.prog T glob 188 (qfy Om.real):=by
 refine qq T_ok qf qg (fun Ω=>[]) [] (fun Ω=>[]) [] qh qi qk ql Tryz.func188 (by rfl) (by kernel_rfl) Tryz.call188 ?_ ?_
 ·intro args;unfold qfy;split
  ·exact qav ⟨trivial,trivial⟩ fun _=>qaM _
  ·exact PR.good_none
 ·intro P Ω hΩ hE hI hm args pr hs hp Q hQ
  unfold qfy at hs
  split at hs<;>subst hs<;>try (exact hp.elim)
  rename_i a
  have ha:=hp ()
  refine⟨1000,?_⟩
  cbv
  refine qn hE hI hm (fun x:Nat × List Int × Nat × Nat=>(mkT 26 [(2,.val (.slice none 0 0)),(3,.sl 48 1 (.l 0) (.s x.2.2.1) (.s x.2.2.2)),(8,.row .u64 8 a),(9,.int .i64 x.1)],[(48,.seq .u8 x.2.1)])) (fun x=>x.1<=8/\x.2.1=rawN a (7*x.1)/\x.2.2.1=7*x.1/\x.2.2.1<=x.2.2.2) (fun x=>8-x.1) 1 ⟨(0,[],0,0),[none],⟨Nat.zero_le _,rfl,rfl,Nat.le_refl _⟩,by decide,?_⟩ fun x hx=>⟨1000,?_⟩
  ·cbv
  obtain⟨i,u,n,c⟩:=x
  obtain⟨hi,hu,hn,hc⟩:i<=8/\u=rawN a (7*i)/\n=7*i/\n<=c:=hx
  cbv
  constructor
  ·intro hd
   cbv
   rw[hΩ]at hd;simp (disch:=omega) only[Om.real,qb,decide_eq_true_eq,decide_eq_false_iff_not]at hd
   repeat (refine⟨by ((try intro _);(try subst hΩ);simp (disch:=omega) only[Om.real,qb,SN.v];omega),?_⟩)
   refine qn hE hI hm (fun x:Nat × List Int × Nat × Nat=>(mkT 26 [(2,.val (.slice none 0 0)),(3,.sl 88 1 (.l 0) (.s x.2.2.1) (.s x.2.2.2)),(5,.int .u64 (Ω.at' a (Ω.toN i))),(8,.row .u64 8 a),(9,.int .i64 i),(12,.int .i64 x.1)],[(88,.seq .u8 x.2.1)])) (fun x=>x.1<=7/\x.2.1=rawN a (7*i+x.1)/\x.2.2.1=7*i+x.1/\x.2.2.1<=x.2.2.2) (fun x=>7-x.1) 1 ⟨(0,u,n,c),[some 48],⟨Nat.zero_le _,hu,hn,hc⟩,by decide,?_⟩ fun y hy=>⟨1000,?_⟩
   ·cbv
    exact⟨rfl,trivial⟩
   obtain⟨k,v,m,c2⟩:=y
   obtain⟨hk,hv,hm',hc2⟩:k<=7/\v=rawN a (7*i+k)/\m=7*i+k/\m<=c2:=hy
   have hvl:v.length=m:=by rw[hv,qfq,hm']
   cbv
   constructor
   ·intro he
    cbv
    rw[hΩ]at he;simp (disch:=omega) only[Om.real,qb,decide_eq_true_eq,decide_eq_false_iff_not]at he
    constructor
    ·intro _;subst hΩ;show 0<=binL .mul .i64 8 (k:Int);simp (disch:=omega) only[Om.real,qb];omega
    constructor
    ·exact fun _=>(show(m+1)*1<=140737488355328 by omega)
    constructor
    ·exact fun _=>⟨(show 0+m*1<=v.length by omega),(show 0+1*1<=1 by omega)⟩
    intro cap hcap
    have hcap:m+1<=cap:=hcap
    cbv
    obtain⟨v',hv'⟩ : ∃ v',v'=rawN a (7*i+k+1):=⟨_,rfl⟩
    obtain⟨m2,hm2⟩ : ∃ m2,m2=m+1:=⟨_,rfl⟩
    refine⟨(k+1,v',m2,cap),[some 176],⟨he,hv',?_,?_⟩,by simp only;omega,by decide,?_⟩
    ·show m2=7*i+(k+1);omega
    ·show m2<=cap;omega
    cbv
    subst hΩ
    simp (disch:=omega) only[Om.real,qb]
    refine⟨hm2.symm,trivial,?_⟩
    rw[List.drop_zero,List.take_of_length_le (by omega),hv',hv]
    show _=rawN a (7*i+k)++[qdS a (7*i+k)]
    congr 2
    unfold qdS
    rw[show(7*i+k) / 7=i by omega,show(7*i+k) % 7=k by omega,<- ushr _ (8*k) (by omega)]
    exact IntKind.wrap_u8 _
   ·intro he
    cbv
    rw[hΩ]at he;simp (disch:=omega) only[Om.real,qb,decide_eq_true_eq,decide_eq_false_iff_not]at he
    have hk7:k=7:=by omega
    subst hk7
    refine⟨(i+1,v,m,c2),[some 88],⟨hd,hv,hm',hc2⟩,by simp only;omega,by decide,?_⟩
    cbv
    subst hΩ
    simp (disch:=omega) only[Om.real,qb]
    exact⟨trivial,trivial⟩
  ·intro hd
   cbv
   rw[hΩ]at hd;simp (disch:=omega) only[Om.real,qb,decide_eq_true_eq,decide_eq_false_iff_not]at hd
   have h8:i=8:=by omega
   subst h8
   refine hQ (u,c) _ _ _ ?_ ?_
   ·unfold rawL
    exact⟨hu,by show u.length<=c;rw[hu,qfq];omega⟩
   ·have hul:u.length=n:=by rw[hu,qfq,hn]
    refine⟨rfl,rfl,by show 0+n<=u.length;omega,?_⟩
    subst hΩ
    show u=(u.drop 0).take n
    rw[List.drop_zero,List.take_of_length_le (by omega)]
end Go.Sx.Tryz
end
section
set_option maxHeartbeats 4000000
namespace Go.Sx.Tryz
open Go.Proofs
def qfK (Ω:Om):qe:=fun args=>match args with
 | [.ab (.fe x)]=>⟨True,Unit,fun _=>True,fun _ =>.row .u64 8 (Ω.hide _ fun _=>qbn x)⟩
 | _=>PR.none
theorem qrA:Ctr Tryz.prog T glob 189 (qfK Om.real):=by
 refine qao T_ok qf qg (fun Ω=>[(174,qbR Ω),(175,qcP Ω),(182,qdW Ω)]) [] (fun Ω=>[]) [(245,qlK)] (qc qdT (qc qie (qc qlO qh))) qi qk (qhC qqa ql) Tryz.func189 (by rfl) (by kernel_rfl) Tryz.call189 ?_ ?_
 ·intro args;unfold qfK;split
  ·exact qo (by repeat' constructor) (fun _ _=>rfl) (by repeat' constructor)
  ·exact PR.good_none
 ·intro P Ω hΩ hE hI hm args pr hs hp cs hcs Q hQ
  unfold qfK at hs
  split at hs<;>subst hs<;>try (exact hp.elim)
  rename_i x
  obtain⟨_,_,rfl,⟨a,rfl,ha⟩,rfl⟩:=hcs
  refine⟨1000,?_⟩
  cbv
  constructor
  ·exact fun _ _=>ha.1
  intro _ _
  cbv
  constructor
  ·intro _ _;subst hΩ;exact(qh8 a).trans ha.1
  intro _ _
  cbv
  constructor
  ·exact fun _=>trivial
  intro _ _
  cbv
  obtain⟨A,hA⟩ : ∃ A,A=qW (qW a):=⟨_,rfl⟩
  have hA8:A.length=8:=by rw[hA,qh8,qh8];exact ha.1
  have hAr : ∀ i,i<8->0<=A.getD i 0/\A.getD i 0<72057594037927936:=by rw[hA];exact qql ha
  have hAU:U64 A:=by rw[hA];exact qqm ha
  refine qn hE hI hm (fun x:Nat × Int × List Int=>(mkT 41 [(1,.ptr 0 (.l 0)),(2,.ptr 8 (.l 0)),(3,.ptr 56 (.l 0)),(4,.int .u64 x.2.1),(5,.ptr 88 (.l 0)),(13,.int .i64 x.1)],[(88,.row .u64 8 x.2.2),(56,.row .u64 8 [72057594037927935,72057594037927935,72057594037927935,72057594037927935,72057594037927934,72057594037927935,72057594037927935,72057594037927935]),(8,.agg [.row .u64 8 [0,0,0,0,0,0,0,0]]),(0,.row .u64 8 A)])) (fun x=>x.1<=8/\x.2=qaV A x.1) (fun x=>8-x.1) 0 ⟨(0,0,A),[],⟨Nat.zero_le _,rfl⟩,Nat.le_refl _,?_⟩ fun x hx=>⟨1000,?_⟩
  ·cbv
   subst hΩ
   exact⟨rfl,hA.symm,hA.symm⟩
  obtain⟨i,o,u⟩:=x
  obtain⟨hi,hu⟩:i<=8/\(o,u)=qaV A i:=hx
  cbv
  constructor
  ·intro hc
   cbv
   rw[hΩ]at hc;simp (disch:=omega) only[Om.real,qb,decide_eq_true_eq,decide_eq_false_iff_not]at hc
   repeat (refine⟨by ((try intro _);(try subst hΩ);simp (disch:=omega) only[Om.real,qb,SN.v];omega),?_⟩)
   constructor
   ·intro _
    subst hΩ
    have h1:=hAr i hc
    refine⟨h1.1,?_,by decide,by decide,?_,?_⟩
    ·show 0<=binL .add .u64 _ _;rw[ua];omega
    ·show A.getD i 0<_;omega
    ·show binL .add .u64 _ _<_;rw[ua];omega
   repeat (refine⟨by ((try intro _);(try subst hΩ);simp (disch:=omega) only[Om.real,qb,SN.v];omega),?_⟩)
   obtain⟨s',hs'⟩ : ∃ s',s'=qaV A (i+1):=⟨_,rfl⟩
   refine⟨(i+1,s'),[],⟨hc,hs'⟩,by simp only;omega,Nat.zero_le _,?_⟩
   cbv
   subst hΩ
   simp (disch:=omega) only[Om.real,qb]
   rw[hs']
   simp only[qaV,<- hu]
   exact⟨rfl,trivial,rfl,trivial⟩
  ·intro hc
   cbv
   rw[hΩ]at hc;simp (disch:=omega) only[Om.real,qb,decide_eq_true_eq,decide_eq_false_iff_not]at hc
   have h8:i=8:=by omega
   subst h8
   constructor
   ·exact fun _ _=>⟨hAU,by have:=qlT hAU 8;rw[<- hu]at this;exact this⟩
   intro _ _
   cbv
   refine hQ () _ _ _ trivial ⟨rfl,rfl,?_⟩
   subst hΩ
   show(if IntKind.i64.wrap (binL .sub .u64 1 o) % 2=0 then A else u)=qbn x
   rw[<- qqn ha,<- hA]
   unfold qh7
   rw[<- hu]
def qfL (Ω:Om):qe:=fun args=>match args with
 | [.ab (.fe x)]=>⟨True,List Int × Nat,fun z=>z.1=qap x/\z.1.length<=z.2,fun z =>.fr .u8 z.1 z.2⟩
 | _=>PR.none
theorem qrB:Ctr Tryz.prog T glob 98 (qfL Om.real):=by
 refine qq T_ok qf qg (fun Ω=>[(189,qfK Ω),(188,qfy Ω)]) [] (fun Ω=>[]) [] (qc qrA (qc qqu qh)) qi qk ql Tryz.func98 (by rfl) (by kernel_rfl) Tryz.call98 ?_ ?_
 ·intro args;unfold qfL;split
  ·exact qav ⟨trivial,trivial⟩ fun _=>qaM _
  ·exact PR.good_none
 ·intro P Ω hΩ hE hI hm args pr hs hp Q hQ
  unfold qfL at hs
  split at hs<;>subst hs<;>try (exact hp.elim)
  rename_i x
  refine⟨1000,?_⟩
  cbv
  constructor
  ·exact fun _=>trivial
  intro _ _
  cbv
  constructor
  ·intro _ _;subst hΩ;rfl
  intro z hz
  have hz:z.1=rawL (qbn x)/\z.1.length<=z.2:=by subst hΩ;exact hz
  cbv
  refine hQ z _ _ _ ⟨hz.1.trans (qqt x),hz.2⟩ ?_
  subst hΩ
  exact⟨rfl,rfl,by show 0+z.1.length<=z.1.length;omega,List.take_length.symm⟩
def qfM (Ω:Om):qe:=fun args=>match args with
 | [.ab (.fe x)]=>⟨True,Unit,fun _=>True,fun _ =>.ab (.fe (Ω.hide _ fun _ =>-x))⟩
 | [.row .u64 8 a]=>⟨∀ _:Unit,(∃ x,okFe x a),Fp,fun x=>okFe x a,fun x =>.ab (.fe (Ω.hide _ fun _ =>-x))⟩
 | _=>PR.none
noncomputable def qrC:List (FuncId × Func):=[(80,Tryz.f80),(171,Tryz.f171),(176,Tryz.f176)]
theorem qrD:Ctr Tryz.prog T glob 81 (qfM Om.real):=by
 refine qao T_ok qf qg (fun Ω=>[(174,qbR Ω),(175,qcP Ω)]) qrC (fun Ω=>[]) [] (qc qdT (qc qie qh)) (qE Tryz.call80 Tryz.func80 (by kernel_rfl) (qE Tryz.call171 Tryz.func171 (by kernel_rfl) (qE Tryz.call176 Tryz.func176 (by kernel_rfl) qi))) qk ql Tryz.func81 (by rfl) (by kernel_rfl) Tryz.call81 ?_ ?_
 ·intro args;unfold qfM;split
  ·exact qo (by repeat' constructor) (fun _ _=>rfl) (by repeat' constructor)
  ·exact⟨fun _=>trivial,fun E x b q hq=>by simp[place]at hq,fun _=>⟨trivial,trivial⟩,fun h=>h ()⟩
  ·exact PR.good_none
 ·intro P Ω hΩ hE hI hm args pr hs hp cs hcs Q hQ
  unfold qfM at hs
  split at hs<;>subst hs<;>try (exact hp.elim)
  ·rename_i x
   obtain⟨_,_,rfl,⟨ys,rfl,hy⟩,rfl⟩:=hcs
   refine⟨1000,?_⟩
   cbv
   constructor
   ·exact fun _=>trivial
   intro _ _
   cbv
   repeat (refine qau hE hI hm (n:=1000) ?_;cbv)
   constructor
   ·intro _ _;subst hΩ;rfl
   intro _ _
   cbv
   refine hQ () _ _ _ trivial ⟨rfl,?_⟩
   subst hΩ
   simp only[Om.real,List.set]
   exact qh5 hy
  ·rename_i ys
   obtain⟨x,hy⟩:=hp ()
   obtain⟨_,_,rfl,rfl,rfl⟩:=hcs
   refine⟨1000,?_⟩
   cbv
   constructor
   ·exact fun _=>trivial
   intro _ _
   cbv
   repeat (refine qau hE hI hm (n:=1000) ?_;cbv)
   constructor
   ·intro _ _;subst hΩ;rfl
   intro _ _
   cbv
   refine hQ x _ _ _ hy ⟨rfl,?_⟩
   subst hΩ
   simp only[Om.real,List.set]
   exact qh5 hy
def qcX (Ω:Om):qe:=fun args=>match args with
 | [.int .i64 n]=>⟨∀ _:Unit,-9223372036854775808<=n/\n<9223372036854775808,Unit,fun _=>True,fun _ =>.ab (.fe (Ω.hide _ fun _=>fI n))⟩
 | _=>PR.none
theorem qiz:Ctr Tryz.prog T glob 76 (qcX Om.real):=by
 refine qq T_ok qf qg (fun Ω=>[(81,qfM Ω)]) [] (fun Ω=>[]) [] (qc qrD qh) qi qk ql Tryz.func76 (by rfl) (by kernel_rfl) Tryz.call76 ?_ ?_
 ·intro args;unfold qcX;split
  ·exact qo (by repeat' constructor) (fun _ _=>rfl) (by repeat' constructor)
  ·exact PR.good_none
 ·intro P Ω hΩ hE hI hm args pr hs hp Q hQ
  unfold qcX at hs
  split at hs<;>subst hs<;>try (exact hp.elim)
  rename_i n
  obtain⟨h0,h1⟩:=hp ()
  refine⟨1000,?_⟩
  cbv
  constructor
  ·intro hc
   cbv
   have hn:n<0:=by subst hΩ;exact of_decide_eq_true hc
   have hfe:okFe (fI (-n)) (Ω.set (Ω.set [0,0,0,0,0,0,0,0] 0 (Ω.bin .and .u64 (Ω.cv .u64 (Ω.un .neg .i64 n)) 72057594037927935)) 1 (Ω.bin .shr .u64 (Ω.cv .u64 (Ω.un .neg .i64 n)) 56)):=by
    subst hΩ
    exact qqp (by omega) hn
   constructor
   ·exact fun _ _=>⟨_,hfe⟩
   intro x hx
   have hx:okFe x _:=hx
   have hxe : -x=fI n:=by
    rw[<- hx.2.2,hfe.2.2,qhZ];grind -lia -linarith -order -ac (splits:=0)
   cbv
   refine hQ () _ _ _ trivial ?_
   subst hΩ
   show Pay.fe (-x)=Pay.fe (fI n)
   rw[hxe]
  ·intro hc
   cbv
   have hn:0<=n:=by
    subst hΩ
    have:=of_decide_eq_false (show decide (n<0)=false from hc)
    omega
   refine hQ () _ _ _ trivial ⟨rfl,?_⟩
   subst hΩ
   exact qqo hn h1
end Go.Sx.Tryz
end
section
set_option maxHeartbeats 4000000
namespace Go.Sx.Tryz
open Go.Proofs
set_option pp.deepTerms true
set_option pp.maxSteps 1000000
def qbp (Ω:Om):qe:=fun args=>match args with
 | [.ab (.fe x),.ab (.fe y)]=>⟨True,Unit,fun _=>True,fun _ =>.ab (.fe (Ω.hide _ fun _=>x*y))⟩
 | _=>PR.none
theorem qcm:Ctr Tryz.prog T glob 84 (qbp Om.real):=by
 refine qao T_ok qf qg (fun Ω=>[(177,qfv Ω),(178,qfu Ω),(179,qfw Ω),(174,qbR Ω)]) [] (fun Ω=>[]) [] (qc qqe (qc qqc (qc qqf (qc qdT qh)))) qi qk ql Tryz.func84 (by rfl) (by kernel_rfl) Tryz.call84 ?_ ?_
 ·intro args;unfold qbp;split
  ·exact qo (by repeat' constructor) (fun _ _=>rfl) (by repeat' constructor)
  ·exact PR.good_none
 ·intro P Ω hΩ hE hI hm args pr hs hp cs hcs Q hQ
  unfold qbp at hs
  split at hs<;>subst hs<;>try (exact hp.elim)
  rename_i x y
  obtain⟨_,_,rfl,⟨xs,rfl,hx⟩,_,_,rfl,⟨ys,rfl,hy⟩,rfl⟩:=hcs
  refine⟨1000,?_⟩
  cbv
  have hx':okFe x xs:=hx
  have hy':okFe y ys:=hy
  have hxr:=qlY hx
  have hyr:=qlY hy
  refine qn hE hI hm (fun x:Nat × List Int=>(mkT 122 [(2,.ptr 0 (.l 0)),(3,.ptr 8 (.l 0)),(4,.ptr 16 (.l 0)),(5,.ptr 24 (.l 0)),(18,.row .u64 8 xs),(19,.int .i64 x.1)],[(24,.row .u64 30 x.2),(16,.agg [.row .u64 8 [0,0,0,0,0,0,0,0]]),(8,.row .u64 8 ys),(0,.row .u64 8 xs)])) (fun x=>x.1<=8/\Cells x.2 (8*x.1)/\tval x.2 15=psum xs x.1*psum ys 8) (fun x=>8-x.1) 0 ⟨(0,[0,0,0,0,0,0,0,0,0,0,0,0,0,0,0,0,0,0,0,0,0,0,0,0,0,0,0,0,0,0]),[],⟨Nat.zero_le _,qqx,by rw[qqy];exact(Int.zero_mul _).symm⟩,Nat.le_refl _,by cbv;exact⟨rfl,trivial⟩⟩ fun x hx=>⟨1000,?_⟩
  obtain⟨i,all⟩:=x
  obtain⟨hi,hcs,hv⟩:i<=8/\Cells all (8*i)/\tval all 15=psum xs i*psum ys 8:=hx
  cbv
  constructor
  ·intro hc
   cbv
   rw[hΩ]at hc;simp (disch:=omega) only[Om.real,qb,decide_eq_true_eq,decide_eq_false_iff_not]at hc
   repeat (refine⟨by ((try intro _);(try subst hΩ);simp (disch:=omega) only[Om.real,qb,SN.v];omega),?_⟩)
   refine qn hE hI hm (fun x:Nat × List Int=>(mkT 122 [(2,.ptr 0 (.l 0)),(3,.ptr 8 (.l 0)),(4,.ptr 16 (.l 0)),(5,.ptr 24 (.l 0)),(6,.int .i64 i),(7,.int .u64 (Ω.at' xs (Ω.toN i))),(18,.row .u64 8 xs),(19,.int .i64 i),(24,.row .u64 8 ys),(25,.int .i64 x.1)],[(24,.row .u64 30 x.2),(16,.agg [.row .u64 8 [0,0,0,0,0,0,0,0]]),(8,.row .u64 8 ys),(0,.row .u64 8 xs)])) (fun x=>x.1<=8/\Cells x.2 (8*i+x.1)/\tval x.2 15=tval all 15+xs.getD i 0*72057594037927936^i*psum ys x.1) (fun x=>8-x.1) 0 ⟨(0,all),[],⟨Nat.zero_le _,(by simpa using hcs),by simp[psum]⟩,Nat.le_refl _,by cbv;exact⟨rfl,trivial⟩⟩ fun z hz=>⟨1000,?_⟩
   obtain⟨k,al2⟩:=z
   obtain⟨hk,hcs2,hv2⟩:k<=8/\Cells al2 (8*i+k)/\tval al2 15=tval all 15+xs.getD i 0*72057594037927936^i*psum ys k:=hz
   cbv
   constructor
   ·intro hd
    cbv
    rw[hΩ]at hd;simp (disch:=omega) only[Om.real,qb,decide_eq_true_eq,decide_eq_false_iff_not]at hd
    repeat (refine⟨by ((try intro _);(try subst hΩ);simp (disch:=omega) only[Om.real,qb,SN.v];omega),?_⟩)
    have hij:i+k<15:=by omega
    simp only[nc]at hcs2
    obtain⟨m1,m2⟩:=qqA hcs2 (by omega) hij (hxr i hc) (hyr k hd)
    have hcl:Ω.sub al2 (Ω.nmul (Ω.toN (Ω.bin .add .i64 (Int.ofNat i) (Int.ofNat k))) 2) 2=cell al2 (i+k):=by
     subst hΩ
     show(al2.drop ((binL .add .i64 (i:Int) (k:Int)).toNat*2)).take 2=_
     rw[qdH i k (by omega)];rfl
    constructor
    ·intro _ _
     refine⟨(show WN (Ω.sub al2 (Ω.nmul (Ω.toN (Ω.bin .add .i64 (Int.ofNat i) (Int.ofNat k))) 2) 2)by rw[hcl];exact(hcs2.2 _ hij).1),?_⟩
     subst hΩ
     have q1:=hxr i hc
     have q2:=hyr k hd
     refine⟨⟨q1.1,?_⟩,q2.1,?_⟩
     ·show xs.getD i 0<_;omega
     ·show ys.getD k 0<_;omega
    intro _ _
    cbv
    repeat (refine⟨by ((try intro _);(try subst hΩ);simp (disch:=omega) only[Om.real,qb,SN.v];omega),?_⟩)
    obtain⟨al3,hal3⟩ : ∃ al3,al3=putc al2 (i+k) (qbd (cell al2 (i+k)) (xs.getD i 0) (ys.getD k 0)):=⟨_,rfl⟩
    rw[<- hal3]at m1 m2
    simp only[nc]at m1
    refine⟨(k+1,al3),[],⟨hd,?_,?_⟩,by simp only;omega,Nat.zero_le _,?_⟩
    ·show Cells al3 (8*(i:Int)+((k+1:Nat):Int))
     exact qdY m1 (by omega)
    ·show tval al3 15=tval all 15+xs.getD i 0*72057594037927936^i*(psum ys k+ys.getD k 0*72057594037927936^k)
     rw[m2,hv2,Int.pow_add]
     grind
    cbv
    subst hΩ
    simp (disch:=omega) only[Om.real,qb]
    refine⟨trivial,?_,trivial⟩
    rw[hal3];rfl
   ·intro hd
    cbv
    rw[hΩ]at hd;simp (disch:=omega) only[Om.real,qb,decide_eq_true_eq,decide_eq_false_iff_not]at hd
    have hk8:k=8:=by omega
    simp only[nc]at hcs2
    refine⟨(i+1,al2),[],⟨hc,?_,?_⟩,by simp only;omega,Nat.zero_le _,?_⟩
    ·show Cells al2 (8*((i+1:Nat):Int))
     exact qdY hcs2 (by omega)
    ·show tval al2 15=(psum xs i+xs.getD i 0*72057594037927936^i)*psum ys 8
     rw[hv2,hv,Int.add_mul,hk8]
    cbv
    subst hΩ
    simp (disch:=omega) only[Om.real,qb]
    exact⟨trivial,trivial⟩
  ·intro hc
   cbv
   rw[hΩ]at hc;simp (disch:=omega) only[Om.real,qb,decide_eq_true_eq,decide_eq_false_iff_not]at hc
   have h8:i=8:=by omega
   subst h8
   simp only[nc]at hcs
   have hvx:fI (tval all 15)=x*y:=by rw[hv,qdP,qlX hx',qlX hy']
   refine qn hE hI hm (fun x:Nat × List Int=>(mkT 122 [(2,.ptr 0 (.l 0)),(3,.ptr 8 (.l 0)),(4,.ptr 16 (.l 0)),(5,.ptr 24 (.l 0)),(10,.int .i64 x.1)],[(24,.row .u64 30 x.2),(16,.agg [.row .u64 8 [0,0,0,0,0,0,0,0]])])) (fun z=>7<=z.1/\z.1<=14/\Cells z.2 (bnd z.1)/\fI (tval z.2 (z.1+1))=x*y) (fun x=>x.1-7) 0 ⟨(14,all),[],⟨(show 7<=14 by decide),(show 14<=14 by decide),qdY hcs (show(8*8:Int)<=bnd 14 by decide),hvx⟩,Nat.le_refl _,by cbv;exact⟨rfl,trivial⟩⟩ fun z hz=>⟨1000,?_⟩
   obtain⟨i,al2⟩:=z
   obtain⟨hi7,hi14,hcs2,hv2⟩:7<=i/\i<=14/\Cells al2 (bnd i)/\fI (tval al2 (i+1))=x*y:=hz
   clear hcs hv hvx
   cbv
   constructor
   ·intro hd
    cbv
    rw[hΩ]at hd;simp (disch:=omega) only[Om.real,qb,decide_eq_true_eq,decide_eq_false_iff_not]at hd
    repeat (refine⟨by ((try intro _);(try subst hΩ);simp (disch:=omega) only[Om.real,qb,SN.v];omega),?_⟩)
    have hi8:8<=i:=by omega
    obtain⟨p1,p2,p3⟩:=qqC i (by omega) hi8
    obtain⟨f1,f2⟩:=qqB hcs2 p1 p2 hi8 (by omega)
    obtain⟨a1,a2⟩:=hcs2.2 (i-8) (by omega)
    obtain⟨c1,c2⟩:=hcs2.2 i (by omega)
    have hc3:=qfA hcs2 (show i-8<15 by omega) (qck (cell al2 (i-8)) (cell al2 i)) (show bnd i<=2*bnd i by omega) (qig a1 c1 a2 c2 p1).2
    constructor
    ·intro _ _
     subst hΩ
     simp (disch:=omega) only[Om.real,qb]
     exact⟨a1,c1⟩
    intro _ _
    cbv
    repeat (refine⟨by ((try intro _);(try subst hΩ);simp (disch:=omega) only[Om.real,qb,SN.v];omega),?_⟩)
    constructor
    ·intro _ _
     subst hΩ
     simp (disch:=omega) only[Om.real,qb]
     exact⟨(hc3.2 (i-4) (by omega)).1,(hc3.2 i (by omega)).1⟩
    intro _ _
    cbv
    repeat (refine⟨by ((try intro _);(try subst hΩ);simp (disch:=omega) only[Om.real,qb,SN.v];omega),?_⟩)
    obtain⟨al3,hal3⟩ : ∃ al3,al3=putc (putc al2 (i-8) (qJ (cell al2 (i-8)) (cell al2 i))) (i-4) (qJ (cell (putc al2 (i-8) (qJ (cell al2 (i-8)) (cell al2 i))) (i-4)) (cell (putc al2 (i-8) (qJ (cell al2 (i-8)) (cell al2 i))) i)):=⟨_,rfl⟩
    rw[<- hal3]at f1 f2
    obtain⟨i1,hi1⟩ : ∃ i1,i1=i-1:=⟨_,rfl⟩
    refine⟨(i1,al3),[],⟨?_,?_,?_,?_⟩,by simp only;omega,Nat.zero_le _,?_⟩
    ·show 7<=i1;omega
    ·show i1<=14;omega
    ·show Cells al3 (bnd i1);rw[hi1,p3];exact f1
    ·show fI (tval al3 (i1+1))=x*y
     rw[show i1+1=i by omega,f2,hv2]
    cbv
    subst hΩ
    simp (disch:=omega) only[Om.real,qb]
    refine⟨by omega,?_,trivial⟩
    rw[hal3];rfl
   ·intro hd
    cbv
    rw[hΩ]at hd;simp (disch:=omega) only[Om.real,qb,decide_eq_true_eq,decide_eq_false_iff_not]at hd
    have hk7:i=7:=by omega
    subst hk7
    have hc8:Cells al2 8192:=qdY hcs2 (show bnd 7<=8192 by decide)
    clear hcs2
    refine qn hE hI hm (fun x:Nat × List Int × List Int=>(mkT 122 [(4,.ptr 16 (.l 0)),(5,.ptr 24 (.l 0)),(11,.ptr 88 (.l 0)),(12,.ptr 96 (.l 0)),(13,.int .i64 x.1)],[(96,.row .u64 2 x.2.2),(88,.row .u64 8 x.2.1),(24,.row .u64 30 al2),(16,.agg [.row .u64 8 [0,0,0,0,0,0,0,0]])])) (fun z=>z.1<=7/\z.2.1.length=8/\WN z.2.2/\wv z.2.2<=4722366482869645213696/\(∀ j,j<z.1->0<=z.2.1.getD j 0/\z.2.1.getD j 0<72057594037927936)/\psum z.2.1 z.1+wv z.2.2*72057594037927936^z.1=tval al2 z.1) (fun x=>7-x.1) 0 ⟨(0,[0,0,0,0,0,0,0,0],[0,0]),[],⟨Nat.zero_le _,rfl,qlH,(show wv [0,0]<=_ by rw[qlI];decide),fun j hj=>absurd hj (Nat.not_lt_zero _),(show 0+wv [0,0]*72057594037927936^0=0 by rw[qlI];decide)⟩,Nat.le_refl _,?_⟩ fun z hz=>⟨1000,?_⟩
    ·cbv
     exact⟨rfl,qqE,qqD rfl,trivial⟩
    obtain⟨i,u,o⟩:=z
    obtain⟨hi,hul,how,hob,hub,huv⟩:i<=7/\u.length=8/\WN o/\wv o<=4722366482869645213696/\(∀ j,j<i->0<=u.getD j 0/\u.getD j 0<72057594037927936)/\psum u i+wv o*72057594037927936^i=tval al2 i:=hz
    obtain⟨c1,c2⟩:=hc8.2 i (by omega)
    obtain⟨k1,k2,k3⟩:=qqF c1 how c2 hob
    cbv
    repeat (refine⟨by ((try intro _);(try subst hΩ);simp (disch:=omega) only[Om.real,qb,SN.v];omega),?_⟩)
    constructor
    ·intro _ _
     subst hΩ
     simp (disch:=omega) only[Om.real,qb]
     exact⟨c1,how⟩
    intro _ _
    cbv
    constructor
    ·intro _ _
     subst hΩ
     exact qck _ _
    intro _ _
    cbv
    repeat (refine⟨by ((try intro _);(try subst hΩ);simp (disch:=omega) only[Om.real,qb,SN.v];omega),?_⟩)
    obtain⟨u2,hu2⟩ : ∃ u2,u2=u.set i (binL .and .u64 ((qJ (cell al2 i) o).getD 1 0) 72057594037927935):=⟨_,rfl⟩
    obtain⟨o2,ho2⟩ : ∃ o2,o2=qaL (qJ (cell al2 i) o):=⟨_,rfl⟩
    have g1:u2.length=8:=by rw[hu2,List.length_set];exact hul
    have g2:WN o2:=by rw[ho2];exact qlG _
    have g3:wv o2<=4722366482869645213696:=by rw[ho2];exact k3
    have g4 : ∀ j,j<i+1->0<=u2.getD j 0/\u2.getD j 0<72057594037927936:=fun j hj=>by
     rw[hu2]
     by_cases e:j=i
     ·subst e;rw[ql1 (by omega)];exact k2
     ·rw[qqG (fun q=>e q.symm)];exact hub j (by omega)
    have g5:psum u2 (i+1)+wv o2*72057594037927936^(i+1)=tval al2 (i+1):=by
     rw[hu2,ho2]
     simp only[psum,tval]
     rw[ql0 i (Nat.le_refl _),ql1 (by omega),<- huv,Int.pow_succ]
     generalize wv (qaL (qJ (cell al2 i) o))=q at k1 ⊢
     generalize binL .and .u64 ((qJ (cell al2 i) o).getD 1 0) 72057594037927935=r at k1 ⊢
     have k4:wv (cell al2 i)=r+72057594037927936*q-wv o:=by omega
     rw[k4]
     grind
    constructor
    ·intro hd
     cbv
     rw[hΩ]at hd;simp (disch:=omega) only[Om.real,qb,decide_eq_true_eq,decide_eq_false_iff_not]at hd
     have hi7:i=7:=by omega
     constructor
     ·intro _ _
      subst hΩ
      exact qlG _
     intro _ _
     cbv
     constructor
     ·intro _ _
      subst hΩ
      simp only[Om.real,List.length_set]
      exact hul
     intro _ _
     cbv
     refine hQ () _ _ _ trivial ⟨rfl,?_⟩
     subst hΩ
     have fin:=qqH (z:=x*y) g1 (fun j hj=>g4 j (by omega)) g2 g3 (by rw[hi7]at g5;rw[<- hv2];exact congrArg fI g5)
     rw[hu2,ho2]at fin
     exact fin
    ·intro hd
     cbv
     rw[hΩ]at hd;simp (disch:=omega) only[Om.real,qb,decide_eq_true_eq,decide_eq_false_iff_not]at hd
     refine⟨(i+1,u2,o2),[],⟨?_,g1,g2,g3,g4,g5⟩,by simp only;omega,Nat.zero_le _,?_⟩
     ·show i+1<=7;omega
     cbv
     subst hΩ
     simp (disch:=omega) only[Om.real,qb]
     refine⟨trivial,?_,?_,trivial⟩
     ·rw[ho2];rfl
     ·rw[hu2];rfl
end Go.Sx.Tryz
end
