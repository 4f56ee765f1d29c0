/-
  Part of the proof of a statement: the means.
-/
import Derived.Test.YtpnebmmjpapopaaGreatDoorX8
import Derived.Test.YtpnebmmjpapopaaGreatDoorX5
set_option linter.unusedSectionVars false
set_option linter.unusedVariables false
set_option linter.unusedSimpArgs false
set_option linter.deprecated false
section
set_option maxHeartbeats 4000000
namespace Go.Sx.Tryz
open Go.Proofs
def qcY (Ω:Om):qe:=fun args=>match args with
 | [.ab (.fe x)]=>⟨True,Unit,fun _=>True,fun _ =>.ab (.fe (Ω.hide _ fun _=>x*x))⟩
 | _=>PR.none
theorem qiA:Ctr Tryz.prog T glob 82 (qcY Om.real):=by
 refine qq T_ok qf qg (fun Ω=>[(84,qbp Ω)]) [] (fun Ω=>[]) [] (qc qcm qh) qi qk ql Tryz.func82 (by rfl) (by kernel_rfl) Tryz.call82 ?_ ?_
 ·intro args;unfold qcY;split
  ·exact qo (by repeat' constructor) (fun _ _=>rfl) (by repeat' constructor)
  ·exact PR.good_none
 ·intro P Ω hΩ hE hI hm args pr hs hp Q hQ
  unfold qcY at hs
  split at hs<;>subst hs<;>try (exact hp.elim)
  rename_i x
  refine⟨1000,?_⟩
  cbv
  repeat (constructor;(first|exact fun _=>trivial|exact fun _ _=>(by decide));intro _ _;cbv)
  exact hQ () _ _ _ trivial rfl
def qd8 (Ω:Om):qe:=fun args=>match args with
 | [.ab (.fe x),.int .i64 n]=>⟨∀ _:Unit,-9223372036854775808<=n/\n<9223372036854775808,Unit,fun _=>True,fun _ =>.ab (.fe (Ω.hide _ fun _=>x*fI n))⟩
 | _=>PR.none
theorem qmy:Ctr Tryz.prog T glob 83 (qd8 Om.real):=by
 refine qq T_ok qf qg (fun Ω=>[(84,qbp Ω),(76,qcX Ω)]) [] (fun Ω=>[]) [] (qc qcm (qc qiz qh)) qi qk ql Tryz.func83 (by rfl) (by kernel_rfl) Tryz.call83 ?_ ?_
 ·intro args;unfold qd8;split
  ·exact qo (by repeat' constructor) (fun _ _=>rfl) (by repeat' constructor)
  ·exact PR.good_none
 ·intro P Ω hΩ hE hI hm args pr hs hp Q hQ
  unfold qd8 at hs
  split at hs<;>subst hs<;>try (exact hp.elim)
  rename_i x n
  have hn:=hp ()
  refine⟨1000,?_⟩
  cbv
  constructor
  ·exact fun _ _=>hn
  intro _ _
  cbv
  repeat (constructor;(first|exact fun _=>trivial|exact fun _ _=>(by decide));intro _ _;cbv)
  refine hQ () _ _ _ trivial ?_
  subst hΩ
  rfl
def qd9 (Ω:Om):qe:=fun args=>match args with
 | [.ab (.fe x),.int .i64 n]=>⟨∀ _:Unit,0<=n/\n<9223372036854775808,Unit,fun _=>True,fun _ =>.ab (.fe (Ω.hide _ fun _=>pw x (2^n.toNat)))⟩
 | _=>PR.none
theorem qmz:Ctr Tryz.prog T glob 181 (qd9 Om.real):=by
 refine qq T_ok qf qg (fun Ω=>[(82,qcY Ω)]) [] (fun Ω=>[]) [] (qc qiA qh) qi qk ql Tryz.func181 (by rfl) (by kernel_rfl) Tryz.call181 ?_ ?_
 ·intro args;unfold qd9;split
  ·exact qo (by repeat' constructor) (fun _ _=>rfl) (by repeat' constructor)
  ·exact PR.good_none
 ·intro P Ω hΩ hE hI hm args pr hs hp Q hQ
  unfold qd9 at hs
  split at hs<;>subst hs<;>try (exact hp.elim)
  rename_i x n
  obtain⟨n0,n1⟩:=hp ()
  obtain⟨m,rfl⟩:=Int.eq_ofNat_of_zero_le n0
  have n2:m<9223372036854775808:=by omega
  refine⟨1000,?_⟩
  cbv
  refine qn hE hI hm (fun z:Nat × Fp=>(mkT 12 [(2,.ptr 0 (.l 0)),(4,.ptr 8 (.l 0)),(5,.int .i64 m),(6,.int .i64 z.1)],[(8,.agg [.row .u64 8 [0,0,0,0,0,0,0,0]]),(0,.ab (.fe z.2))])) (fun z=>z.1<=m/\z.2=pw x (2^z.1)) (fun z=>m-z.1) 0 ⟨(0,x),[],⟨Nat.zero_le _,(qcJ x).symm⟩,Nat.le_refl _,by cbv;exact⟨rfl,trivial⟩⟩ fun z hz=>⟨1000,?_⟩
  obtain⟨i,y⟩:=z
  obtain⟨hi,hy⟩:i<=m/\y=pw x (2^i):=hz
  cbv
  constructor
  ·intro hc
   cbv
   rw[hΩ]at hc;simp (disch:=omega) only[Om.real,qb,decide_eq_true_eq,decide_eq_false_iff_not]at hc
   repeat (constructor;(first|exact fun _=>trivial|exact fun _ _=>(by decide));intro _ _;cbv)
   obtain⟨y2,hy2⟩ : ∃ y2,y2=y*y:=⟨_,rfl⟩
   refine⟨(i+1,y2),[],⟨hc,?_⟩,by simp only;omega,Nat.zero_le _,?_⟩
   ·show y2=pw x (2^(i+1))
    rw[hy2,hy,Nat.pow_succ,qbP];simp only[pw];grind -lia -linarith -order -ac (splits:=0)
   cbv
   subst hΩ
   simp (disch:=omega) only[Om.real,qb]
   exact⟨trivial,by rw[hy2]⟩
  ·intro hc
   cbv
   rw[hΩ]at hc;simp (disch:=omega) only[Om.real,qb,decide_eq_true_eq,decide_eq_false_iff_not]at hc
   have e:i=m:=by omega
   refine hQ () _ _ _ trivial ?_
   subst hΩ
   show Pay.fe y=Pay.fe (pw x (2^((m:Int)).toNat))
   rw[hy,e,Int.toNat_natCast]
def qfN (Ω:Om):qe:=fun args=>match args with
 | [.ab (.fe x),.int .i64 n,.ab (.fe y)]=>⟨∀ _:Unit,0<=n/\n<9223372036854775808,Unit,fun _=>True,fun _ =>.ab (.fe (Ω.hide _ fun _=>jn x n y))⟩
 | _=>PR.none
theorem qrE:Ctr Tryz.prog T glob 242 (qfN Om.real):=by
 refine qq T_ok qf qg (fun Ω=>[(181,qd9 Ω),(84,qbp Ω)]) [] (fun Ω=>[]) [] (qc qmz (qc qcm qh)) qi qk ql Tryz.func242 (by rfl) (by kernel_rfl) Tryz.call242 ?_ ?_
 ·intro args;unfold qfN;split
  ·exact qo (by repeat' constructor) (fun _ _=>rfl) (by repeat' constructor)
  ·exact PR.good_none
 ·intro P Ω hΩ hE hI hm args pr hs hp Q hQ
  unfold qfN at hs
  split at hs<;>subst hs<;>try (exact hp.elim)
  rename_i x n y
  have hn:=hp ()
  refine⟨1000,?_⟩
  cbv
  constructor
  ·exact fun _ _=>hn
  intro _ _
  cbv
  repeat (constructor;(first|exact fun _=>trivial|exact fun _ _=>(by decide));intro _ _;cbv)
  refine hQ () _ _ _ trivial ?_
  subst hΩ
  rfl
def qfO (Ω:Om):qe:=fun args=>match args with
 | [.ab (.fe x)]=>⟨True,Unit,fun _=>True,fun _ =>.ab (.fe (Ω.hide _ fun _=>qcK x))⟩
 | _=>PR.none
theorem qrF:Ctr Tryz.prog T glob 180 (qfO Om.real):=by
 refine qq T_ok qf qg (fun Ω=>[(242,qfN Ω)]) [] (fun Ω=>[]) [] (qc qrE qh) qi qk ql Tryz.func180 (by rfl) (by kernel_rfl) Tryz.call180 ?_ ?_
 ·intro args;unfold qfO;split
  ·exact qo (by repeat' constructor) (fun _ _=>rfl) (by repeat' constructor)
  ·exact PR.good_none
 ·intro P Ω hΩ hE hI hm args pr hs hp Q hQ
  unfold qfO at hs
  split at hs<;>subst hs<;>try (exact hp.elim)
  rename_i x
  refine⟨1000,?_⟩
  cbv
  repeat (constructor;(first|exact fun _=>trivial|exact fun _ _=>(by decide));intro _ _;cbv)
  refine hQ () _ _ _ trivial ?_
  subst hΩ
  exact congrArg Pay.fe (qqI x _ _ _ _ _ _ _ rfl rfl rfl rfl rfl rfl rfl)
def qfP (Ω:Om):qe:=fun args=>match args with
 | [.ab (.fe x)]=>⟨True,Unit,fun _=>True,fun _ =>.ab (.fe (Ω.hide _ fun _=>finv x))⟩
 | _=>PR.none
theorem qrG:Ctr Tryz.prog T glob 87 (qfP Om.real):=by
 refine qq T_ok qf qg (fun Ω=>[(180,qfO Ω),(181,qd9 Ω),(84,qbp Ω)]) [] (fun Ω=>[]) [] (qc qrF (qc qmz (qc qcm qh))) qi qk ql Tryz.func87 (by rfl) (by kernel_rfl) Tryz.call87 ?_ ?_
 ·intro args;unfold qfP;split
  ·exact qo (by repeat' constructor) (fun _ _=>rfl) (by repeat' constructor)
  ·exact PR.good_none
 ·intro P Ω hΩ hE hI hm args pr hs hp Q hQ
  unfold qfP at hs
  split at hs<;>subst hs<;>try (exact hp.elim)
  rename_i x
  refine⟨1000,?_⟩
  cbv
  repeat (constructor;(first|exact fun _=>trivial|exact fun _ _=>(by decide));intro _ _;cbv)
  refine hQ () _ _ _ trivial ?_
  subst hΩ
  exact congrArg Pay.fe (qqL x)
end Go.Sx.Tryz
end
section
set_option maxHeartbeats 4000000
namespace Go.Sx.Tryz
open Go.Proofs
def qcZ (Ω:Om):qe:=fun args=>match args with
 | []=>⟨True,Unit,fun _=>True,fun _ =>.ab (.pt (Ω.hide _ fun _=>pid))⟩
 | _=>PR.none
theorem qiB:Ctr Tryz.prog T glob 120 (qcZ Om.real):=by
 refine qq T_ok qf qg (fun Ω=>[(76,qcX Ω)]) [] (fun Ω=>[]) [] (qc qiz qh) qi qk ql Tryz.func120 (by rfl) (by kernel_rfl) Tryz.call120 ?_ ?_
 ·intro args;unfold qcZ;split
  ·exact qo (by repeat' constructor) (fun _ _=>rfl) (by repeat' constructor)
  ·exact PR.good_none
 ·intro P Ω hΩ hE hI hm args pr hs hp Q hQ
  unfold qcZ at hs
  split at hs<;>subst hs<;>try (exact hp.elim)
  refine⟨1000,?_⟩
  cbv
  repeat (constructor;(first|exact fun _=>trivial|exact fun _ _=>(by decide));intro _ _;cbv)
  refine hQ () _ _ _ trivial ?_
  subst hΩ
  exact qcI qih qfn (by decide +kernel) (by decide +kernel)
def qfQ (Ω:Om):qe:=fun args=>match args with
 | [.ab (.fe a),.rop (.ab (.fe o)) (.l 0)]=>⟨True,Unit,fun _=>True,fun _ =>.ab (.fe (Ω.hide _ fun _=>a*o))⟩
 | _=>PR.none
theorem qrH:Ctr Tryz.prog T glob 192 (qfQ Om.real):=by
 refine qq T_ok qf qg (fun Ω=>[(84,qbp Ω)]) [] (fun Ω=>[]) [] (qc qcm qh) qi qk ql Tryz.func192 (by rfl) (by kernel_rfl) Tryz.call192 ?_ ?_
 ·intro args;unfold qfQ;split
  ·exact qo (by repeat' constructor) (fun _ _=>rfl) (by repeat' constructor)
  ·exact PR.good_none
 ·intro P Ω hΩ hE hI hm args pr hs hp Q hQ
  unfold qfQ at hs
  split at hs<;>subst hs<;>try (exact hp.elim)
  rename_i a o
  refine⟨1000,?_⟩
  cbv
  repeat (constructor;(first|exact fun _=>trivial|exact fun _ _=>(by decide));intro _ _;cbv)
  exact hQ () _ _ _ trivial rfl
def qfR (Ω:Om):qe:=fun args=>match args with
 | [.ab (.pt P)]=>⟨True,Unit,fun _=>True,fun _ =>.tup [.ab (.fe (Ω.hide _ fun _=>P.x)),.ab (.fe (Ω.hide _ fun _=>P.y))]⟩
 | _=>PR.none
theorem qrI:Ctr Tryz.prog T glob 105 (qfR Om.real):=by
 refine qao T_ok qf qg (fun Ω=>[(87,qfP Ω),(192,qfQ Ω)]) [] (fun Ω=>[]) [] (qc qrG (qc qrH qh)) qi qk ql Tryz.func105 (by rfl) (by kernel_rfl) Tryz.call105 ?_ ?_
 ·intro args;unfold qfR;split
  ·exact qo (by repeat' constructor) (fun _ _=>rfl) (by repeat' constructor)
  ·exact PR.good_none
 ·intro P Ω hΩ hE hI hm args pr hs hp cs hcs Q hQ
  unfold qfR at hs
  split at hs<;>subst hs<;>try (exact hp.elim)
  rename_i P
  obtain⟨_,_,rfl,⟨X,Y,Z,rfl,hP,hz,hx,hy⟩,rfl⟩:=hcs
  refine⟨1000,?_⟩
  cbv
  repeat (constructor;(first|exact fun _=>trivial|exact fun _ _=>(by decide));intro _ _;cbv)
  refine hQ () _ _ _ trivial ?_
  subst hΩ
  exact⟨⟨congrArg Pay.fe (qfB hz hx),congrArg Pay.fe (qfB hz hy),trivial⟩,rfl,rfl⟩
def qea (Ω:Om):qe:=fun args=>match args with
 | [.ab (.pt P),.ab (.pt Q)]=>⟨True,Unit,fun _=>True,fun _ =>.ab (.pt (Ω.hide _ fun _=>padd P Q))⟩
 | _=>PR.none
theorem qmA:Ctr Tryz.prog T glob 60 (qea Om.real):=by
 refine qao T_ok qf qg (fun Ω=>[(84,qbp Ω),(82,qcY Ω),(83,qd8 Ω),(80,qdV Ω),(78,qdU Ω)]) [] (fun Ω=>[]) [] (qc qcm (qc qiA (qc qmy (qc qlN (qc qlM qh))))) qi qk ql Tryz.func60 (by rfl) (by kernel_rfl) Tryz.call60 ?_ ?_
 ·intro args;unfold qea;split
  ·exact qo (by repeat' constructor) (fun _ _=>rfl) (by repeat' constructor)
  ·exact PR.good_none
 ·intro P Ω hΩ hE hI hm args pr hs hp cs hcs Q hQ
  unfold qea at hs
  split at hs<;>subst hs<;>try (exact hp.elim)
  rename_i P R
  obtain⟨_,_,rfl,⟨X1,Y1,Z1,rfl,hP,z1,x1,y1⟩,_,_,rfl,⟨X2,Y2,Z2,rfl,hR,z2,x2,y2⟩,rfl⟩:=hcs
  refine⟨1000,?_⟩
  cbv
  repeat (constructor;(first|exact fun _=>trivial|exact fun _ _=>(by decide));intro _ _;cbv)
  refine hQ () _ _ _ trivial ?_
  subst hΩ
  have h:=qqZ hP hR z1 x1 y1 z2 x2 y2
  rw[<- fI_d]at h
  exact qcI (qcS hP hR) h.1 h.2.1 h.2.2
def qeb (Ω:Om):qe:=fun args=>match args with
 | [.ab (.pt P)]=>⟨True,Unit,fun _=>True,fun _ =>.ab (.pt (Ω.hide _ fun _=>padd P P))⟩
 | _=>PR.none
theorem qmB:Ctr Tryz.prog T glob 145 (qeb Om.real):=by
 refine qao T_ok qf qg (fun Ω=>[(84,qbp Ω),(82,qcY Ω),(83,qd8 Ω),(80,qdV Ω),(78,qdU Ω)]) [] (fun Ω=>[]) [] (qc qcm (qc qiA (qc qmy (qc qlN (qc qlM qh))))) qi qk ql Tryz.func145 (by rfl) (by kernel_rfl) Tryz.call145 ?_ ?_
 ·intro args;unfold qeb;split
  ·exact qo (by repeat' constructor) (fun _ _=>rfl) (by repeat' constructor)
  ·exact PR.good_none
 ·intro P Ω hΩ hE hI hm args pr hs hp cs hcs Q hQ
  unfold qeb at hs
  split at hs<;>subst hs<;>try (exact hp.elim)
  rename_i P
  obtain⟨_,_,rfl,⟨X,Y,Z,rfl,hP,hz,hx,hy⟩,rfl⟩:=hcs
  refine⟨1000,?_⟩
  cbv
  repeat (constructor;(first|exact fun _=>trivial|exact fun _ _=>(by decide));intro _ _;cbv)
  refine hQ () _ _ _ trivial ?_
  subst hΩ
  have h:=qq0 hP hz hx hy
  rw[<- fI_2]at h
  exact qcI (qcS hP hP) h.1 h.2.1 h.2.2
def qfS (Ω:Om):qe:=fun args=>match args with
 | [.agg [.int .i64 b],.ab (.fe x),.ab (.fe y)]=>⟨True,Unit,fun _=>True,fun _ =>.ab (.fe (Ω.hide _ fun _=>if b % 2=0 then x else y))⟩
 | _=>PR.none
theorem qrJ:Ctr Tryz.prog T glob 224 (qfS Om.real):=by
 refine qq T_ok qf qg (fun Ω=>[(182,qdW Ω)]) [] (fun Ω=>[]) [] (qc qlO qh) qi qk ql Tryz.func224 (by rfl) (by kernel_rfl) Tryz.call224 ?_ ?_
 ·intro args;unfold qfS;split
  ·exact qo (by repeat' constructor) (fun _ _=>rfl) (by repeat' constructor)
  ·exact PR.good_none
 ·intro P Ω hΩ hE hI hm args pr hs hp Q hQ
  unfold qfS at hs
  split at hs<;>subst hs<;>try (exact hp.elim)
  rename_i b x y
  refine⟨1000,?_⟩
  cbv
  repeat (constructor;(first|exact fun _=>trivial|exact fun _ _=>(by decide));intro _ _;cbv)
  exact hQ () _ _ _ trivial rfl
def qfT (Ω:Om):qe:=fun args=>match args with
 | [.int .i64 b,.ab (.pt P),.ab (.pt Q)]=>⟨True,Unit,fun _=>True,fun _ =>.ab (.pt (Ω.hide _ fun _=>if b % 2=0 then P else Q))⟩
 | _=>PR.none
theorem qrK:Ctr Tryz.prog T glob 147 (qfT Om.real):=by
 refine qao T_ok qf qg (fun Ω=>[(224,qfS Ω)]) [] (fun Ω=>[]) [] (qc qrJ qh) qi qk ql Tryz.func147 (by rfl) (by kernel_rfl) Tryz.call147 ?_ ?_
 ·intro args;unfold qfT;split
  ·exact qo (by repeat' constructor) (fun _ _=>rfl) (by repeat' constructor)
  ·exact PR.good_none
 ·intro P Ω hΩ hE hI hm args pr hs hp cs hcs Q hQ
  unfold qfT at hs
  split at hs<;>subst hs<;>try (exact hp.elim)
  rename_i b P R
  obtain⟨_,_,rfl,rfl,_,_,rfl,⟨X1,Y1,Z1,rfl,hP,z1,x1,y1⟩,_,_,rfl,⟨X2,Y2,Z2,rfl,hR,z2,x2,y2⟩,rfl⟩:=hcs
  refine⟨1000,?_⟩
  cbv
  repeat (constructor;(first|exact fun _=>trivial|exact fun _ _=>(by decide));intro _ _;cbv)
  refine hQ () _ _ _ trivial ?_
  subst hΩ
  by_cases hb:b % 2=0
  ·simp only[Om.real,if_pos hb]
   exact qcI hP z1 x1 y1
  ·simp only[Om.real,if_neg hb]
   exact qcI hR z2 x2 y2
end Go.Sx.Tryz
end
section

end
section

end
section

end
