/-
  Part of the proof of a statement: the means.
-/
import Derived.Test.YtpnebmmjpapopaaGreatDoorX8
import Derived.Test.YtpnebmmjpapopaaGreatDoorX5
set_option linter.unusedSectionVars false
set_option linter.unusedVariables false
set_option linter.unusedSimpArgs false
set_option linter.deprecated false
section
set_option maxHeartbeats 4000000
namespace Go.Sx.Tryz
open Go.Proofs
def qbP (Ω:Om):qd:=fun args=>match args with
 | [.ab (.fe x)]=>⟨True,Unit,fun _=>True,fun _ =>.ab (.fe (Ω.hide _ fun _=>x*x))⟩
 | _=>PR.none
theorem qc9:Ctr Tryz.prog T glob 82 (qbP Om.real):=by
 refine qo T_ok qf qg (fun Ω=>[(84,qaw Ω)]) [] (fun Ω=>[]) [] (qb qaI qh) qi qk ql Tryz.func82 (by rfl) (by kernel_rfl) Tryz.call82 ?_ ?_
 ·intro args;unfold qbP;split
  ·exact qt (by repeat' constructor) (fun _ _=>rfl) (by repeat' constructor)
  ·exact PR.good_none
 ·intro P Ω hΩ hE hI hm args pr hs hp Q hQ
  unfold qbP at hs
  split at hs<;>subst hs<;>try (exact hp.elim)
  rename_i x
  refine⟨1000,?_⟩
  cbv
  repeat (constructor;(first|exact fun _=>trivial|exact fun _ _=>(by decide));intro _ _;cbv)
  exact hQ () _ _ _ trivial rfl
def qcx (Ω:Om):qd:=fun args=>match args with
 | [.ab (.fe x),.int .i64 n]=>⟨∀ _:Unit,-9223372036854775808<=n/\n<9223372036854775808,Unit,fun _=>True,fun _ =>.ab (.fe (Ω.hide _ fun _=>x*fI n))⟩
 | _=>PR.none
theorem qeV:Ctr Tryz.prog T glob 83 (qcx Om.real):=by
 refine qo T_ok qf qg (fun Ω=>[(84,qaw Ω),(76,qbE Ω)]) [] (fun Ω=>[]) [] (qb qaI (qb qcw qh)) qi qk ql Tryz.func83 (by rfl) (by kernel_rfl) Tryz.call83 ?_ ?_
 ·intro args;unfold qcx;split
  ·exact qt (by repeat' constructor) (fun _ _=>rfl) (by repeat' constructor)
  ·exact PR.good_none
 ·intro P Ω hΩ hE hI hm args pr hs hp Q hQ
  unfold qcx at hs
  split at hs<;>subst hs<;>try (exact hp.elim)
  rename_i x n
  have hn:=hp ()
  refine⟨1000,?_⟩
  cbv
  constructor
  ·exact fun _ _=>hn
  intro _ _
  cbv
  repeat (constructor;(first|exact fun _=>trivial|exact fun _ _=>(by decide));intro _ _;cbv)
  refine hQ () _ _ _ trivial ?_
  subst hΩ
  rfl
def qeW (Ω:Om):qd:=fun args=>match args with
 | [.ab (.fe x),.int .i64 n]=>⟨∀ _:Unit,0<=n/\n<9223372036854775808,Unit,fun _=>True,fun _ =>.ab (.fe (Ω.hide _ fun _=>pw x (2^n.toNat)))⟩
 | _=>PR.none
theorem qnS:Ctr Tryz.prog T glob 181 (qeW Om.real):=by
 refine qo T_ok qf qg (fun Ω=>[(82,qbP Ω)]) [] (fun Ω=>[]) [] (qb qc9 qh) qi qk ql Tryz.func181 (by rfl) (by kernel_rfl) Tryz.call181 ?_ ?_
 ·intro args;unfold qeW;split
  ·exact qt (by repeat' constructor) (fun _ _=>rfl) (by repeat' constructor)
  ·exact PR.good_none
 ·intro P Ω hΩ hE hI hm args pr hs hp Q hQ
  unfold qeW at hs
  split at hs<;>subst hs<;>try (exact hp.elim)
  rename_i x n
  obtain⟨n0,n1⟩:=hp ()
  obtain⟨m,rfl⟩:=Int.eq_ofNat_of_zero_le n0
  have n2:m<9223372036854775808:=by omega
  refine⟨1000,?_⟩
  cbv
  refine qr hE hI hm (fun z:Nat × Fp=>(mkT 12 [(2,.ptr 0 (.l 0)),(4,.ptr 8 (.l 0)),(5,.int .i64 m),(6,.int .i64 z.1)],[(8,.agg [.row .u64 8 [0,0,0,0,0,0,0,0]]),(0,.ab (.fe z.2))])) (fun z=>z.1<=m/\z.2=pw x (2^z.1)) (fun z=>m-z.1) 0 ⟨(0,x),[],⟨Nat.zero_le _,(qc0 x).symm⟩,Nat.le_refl _,by cbv;exact⟨rfl,trivial⟩⟩ fun z hz=>⟨1000,?_⟩
  obtain⟨i,y⟩:=z
  obtain⟨hi,hy⟩:i<=m/\y=pw x (2^i):=hz
  cbv
  constructor
  ·intro hc
   cbv
   rw[hΩ]at hc;simp (disch:=omega) only[Om.real,qc,decide_eq_true_eq,decide_eq_false_iff_not]at hc
   repeat (constructor;(first|exact fun _=>trivial|exact fun _ _=>(by decide));intro _ _;cbv)
   obtain⟨y2,hy2⟩ : ∃ y2,y2=y*y:=⟨_,rfl⟩
   refine⟨(i+1,y2),[],⟨hc,?_⟩,by simp only;omega,Nat.zero_le _,?_⟩
   ·show y2=pw x (2^(i+1))
    rw[hy2,hy,Nat.pow_succ,qcp];simp only[pw];grind -lia -linarith -order -ac (splits:=0)
   cbv
   subst hΩ
   simp (disch:=omega) only[Om.real,qc]
   exact⟨trivial,by rw[hy2]⟩
  ·intro hc
   cbv
   rw[hΩ]at hc;simp (disch:=omega) only[Om.real,qc,decide_eq_true_eq,decide_eq_false_iff_not]at hc
   have e:i=m:=by omega
   refine hQ () _ _ _ trivial ?_
   subst hΩ
   show Pay.fe y=Pay.fe (pw x (2^((m:Int)).toNat))
   rw[hy,e,Int.toNat_natCast]
def qgQ (Ω:Om):qd:=fun args=>match args with
 | [.ab (.fe x),.int .i64 n,.ab (.fe y)]=>⟨∀ _:Unit,0<=n/\n<9223372036854775808,Unit,fun _=>True,fun _ =>.ab (.fe (Ω.hide _ fun _=>jn x n y))⟩
 | _=>PR.none
theorem qsZ:Ctr Tryz.prog T glob 242 (qgQ Om.real):=by
 refine qo T_ok qf qg (fun Ω=>[(181,qeW Ω),(84,qaw Ω)]) [] (fun Ω=>[]) [] (qb qnS (qb qaI qh)) qi qk ql Tryz.func242 (by rfl) (by kernel_rfl) Tryz.call242 ?_ ?_
 ·intro args;unfold qgQ;split
  ·exact qt (by repeat' constructor) (fun _ _=>rfl) (by repeat' constructor)
  ·exact PR.good_none
 ·intro P Ω hΩ hE hI hm args pr hs hp Q hQ
  unfold qgQ at hs
  split at hs<;>subst hs<;>try (exact hp.elim)
  rename_i x n y
  have hn:=hp ()
  refine⟨1000,?_⟩
  cbv
  constructor
  ·exact fun _ _=>hn
  intro _ _
  cbv
  repeat (constructor;(first|exact fun _=>trivial|exact fun _ _=>(by decide));intro _ _;cbv)
  refine hQ () _ _ _ trivial ?_
  subst hΩ
  rfl
def qdN (Ω:Om):qd:=fun args=>match args with
 | [.ab (.fe x)]=>⟨True,Unit,fun _=>True,fun _ =>.ab (.fe (Ω.hide _ fun _=>qq x))⟩
 | _=>PR.none
theorem qjV:Ctr Tryz.prog T glob 180 (qdN Om.real):=by
 refine qo T_ok qf qg (fun Ω=>[(242,qgQ Ω)]) [] (fun Ω=>[]) [] (qb qsZ qh) qi qk ql Tryz.func180 (by rfl) (by kernel_rfl) Tryz.call180 ?_ ?_
 ·intro args;unfold qdN;split
  ·exact qt (by repeat' constructor) (fun _ _=>rfl) (by repeat' constructor)
  ·exact PR.good_none
 ·intro P Ω hΩ hE hI hm args pr hs hp Q hQ
  unfold qdN at hs
  split at hs<;>subst hs<;>try (exact hp.elim)
  rename_i x
  refine⟨1000,?_⟩
  cbv
  repeat (constructor;(first|exact fun _=>trivial|exact fun _ _=>(by decide));intro _ _;cbv)
  refine hQ () _ _ _ trivial ?_
  subst hΩ
  exact congrArg Pay.fe (qsU x _ _ _ _ _ _ _ rfl rfl rfl rfl rfl rfl rfl)
def qgR (Ω:Om):qd:=fun args=>match args with
 | [.ab (.fe x)]=>⟨True,Unit,fun _=>True,fun _ =>.int .i64 (Ω.hide _ fun _=>odd1 x)⟩
 | _=>PR.none
theorem qs0:Ctr Tryz.prog T glob 183 (qgR Om.real):=by
 refine qo T_ok qf qg (fun Ω=>[(98,qeQ Ω)]) [] (fun Ω=>[]) [] (qb qnK qh) qi qk ql Tryz.func183 (by rfl) (by kernel_rfl) Tryz.call183 ?_ ?_
 ·intro args;unfold qgR;split
  ·exact qt (by repeat' constructor) (fun _ _=>rfl) (by repeat' constructor)
  ·exact PR.good_none
 ·intro P Ω hΩ hE hI hm args pr hs hp Q hQ
  unfold qgR at hs
  split at hs<;>subst hs<;>try (exact hp.elim)
  rename_i x
  refine⟨1000,?_⟩
  cbv
  constructor
  ·exact fun _=>trivial
  intro z hz
  have hz:z.1=qah x/\z.1.length<=z.2:=by subst hΩ;exact hz
  have hl:z.1.length=56:=by rw[hz.1,qeU]
  cbv
  constructor
  ·intro _;subst hΩ;show 0<z.1.length;omega
  constructor
  ·exact fun _=>(show 0+1<=z.1.length by omega)
  refine hQ () _ _ _ trivial ⟨rfl,?_⟩
  subst hΩ
  show IntKind.i64.wrap (binL .and .u8 (z.1.getD 0 0) 1)=odd1 x
  rw[hz.1,qsV,qsW _ (Nat.mod_lt _ (by decide)),IntKind.wrap_i64]
  unfold odd1
  omega
def qda (Ω:Om):qd:=fun args=>match args with
 | [.ab (.fe x)]=>⟨True,Unit,fun _=>True,fun _ =>.ab (.fe (Ω.hide _ fun _=>fabs x))⟩
 | _=>PR.none
theorem qgS:Ctr Tryz.prog T glob 89 (qda Om.real):=by
 refine qo T_ok qf qg (fun Ω=>[(183,qgR Ω),(81,qc7 Ω),(182,qdK Ω)]) [] (fun Ω=>[]) [] (qb qs0 (qb qgM (qb qjS qh))) qi qk ql Tryz.func89 (by rfl) (by kernel_rfl) Tryz.call89 ?_ ?_
 ·intro args;unfold qda;split
  ·exact qt (by repeat' constructor) (fun _ _=>rfl) (by repeat' constructor)
  ·exact PR.good_none
 ·intro P Ω hΩ hE hI hm args pr hs hp Q hQ
  unfold qda at hs
  split at hs<;>subst hs<;>try (exact hp.elim)
  rename_i x
  refine⟨1000,?_⟩
  cbv
  repeat (constructor;(first|exact fun _=>trivial|exact fun _ _=>(by decide));intro _ _;cbv)
  refine hQ () _ _ _ trivial ?_
  subst hΩ
  exact congrArg Pay.fe (qsX x)
def qdO (Ω:Om):qd:=fun args=>match args with
 | [.ab (.fe x)]=>⟨True,Unit,fun _=>True,fun _ =>.ab (.fe (Ω.hide _ fun _=>finv x))⟩
 | _=>PR.none
theorem qjW:Ctr Tryz.prog T glob 87 (qdO Om.real):=by
 refine qo T_ok qf qg (fun Ω=>[(180,qdN Ω),(181,qeW Ω),(84,qaw Ω)]) [] (fun Ω=>[]) [] (qb qjV (qb qnS (qb qaI qh))) qi qk ql Tryz.func87 (by rfl) (by kernel_rfl) Tryz.call87 ?_ ?_
 ·intro args;unfold qdO;split
  ·exact qt (by repeat' constructor) (fun _ _=>rfl) (by repeat' constructor)
  ·exact PR.good_none
 ·intro P Ω hΩ hE hI hm args pr hs hp Q hQ
  unfold qdO at hs
  split at hs<;>subst hs<;>try (exact hp.elim)
  rename_i x
  refine⟨1000,?_⟩
  cbv
  repeat (constructor;(first|exact fun _=>trivial|exact fun _ _=>(by decide));intro _ _;cbv)
  refine hQ () _ _ _ trivial ?_
  subst hΩ
  exact congrArg Pay.fe (qsY x)
def qeX (Ω:Om):qd:=fun args=>match args with
 | [.ab (.fe u),.ab (.fe v)]=>⟨True,Unit,fun _=>True,fun _ =>.tup [.ab (.fe (Ω.hide _ fun _=>fabs (u*qq (u*v)))),.bs (Ω.hide _ fun _=>decide (v*(u*qq (u*v)*(u*qq (u*v)))=u))]⟩
 | _=>PR.none
theorem qnT:Ctr Tryz.prog T glob 85 (qeX Om.real):=by
 refine qo T_ok qf qg (fun Ω=>[(180,qdN Ω),(89,qda Ω),(84,qaw Ω),(82,qbP Ω),(36,qc8 Ω)]) [] (fun Ω=>[]) [] (qb qjV (qb qgS (qb qaI (qb qc9 (qb qgN qh))))) qi qk ql Tryz.func85 (by rfl) (by kernel_rfl) Tryz.call85 ?_ ?_
 ·intro args;unfold qeX;split
  ·exact qt (by repeat' constructor) (fun _ _=>rfl) (by repeat' constructor)
  ·exact PR.good_none
 ·intro P Ω hΩ hE hI hm args pr hs hp Q hQ
  unfold qeX at hs
  split at hs<;>subst hs<;>try (exact hp.elim)
  rename_i u v
  refine⟨1000,?_⟩
  cbv
  repeat (constructor;(first|exact fun _=>trivial|exact fun _ _=>(by decide));intro _ _;cbv)
  refine hQ () _ _ _ trivial ?_
  subst hΩ
  exact⟨⟨rfl,rfl,trivial⟩,rfl,rfl⟩
def qgT (Ω:Om):qd:=fun args=>match args with
 | [.ab (.fe a)]=>⟨True,Bool,fun z=>z=decide (a*qq a*(a*qq a)=a),fun z=>match z with|true =>.tup [.ab (.fe (Ω.hide _ fun _=>fabs (a*qq a))),.lit .i64 0]|false =>.tup [.row .u64 8 [0,0,0,0,0,0,0,0],.lit .i64 17]⟩
 | _=>PR.none
theorem qs1:Ctr Tryz.prog T glob 195 (qgT Om.real):=by
 refine qo T_ok qf qg (fun Ω=>[(180,qdN Ω),(89,qda Ω),(84,qaw Ω),(82,qbP Ω),(36,qc8 Ω)]) [] (fun Ω=>[]) [] (qb qjV (qb qgS (qb qaI (qb qc9 (qb qgN qh))))) qi qk ql Tryz.func195 (by rfl) (by kernel_rfl) Tryz.call195 ?_ ?_
 ·intro args;unfold qgT;split
  ·exact qba ⟨fun x=>by cases x<;>repeat' (first|exact trivial|constructor),fun E x b=>by cases x<;>rfl⟩ ⟨trivial,trivial⟩ (fun _=>⟨_,rfl⟩)
  ·exact PR.good_none
 ·intro P Ω hΩ hE hI hm args pr hs hp Q hQ
  unfold qgT at hs
  split at hs<;>subst hs<;>try (exact hp.elim)
  rename_i a
  refine⟨1000,?_⟩
  cbv
  repeat (constructor;(first|exact fun _=>trivial|exact fun _ _=>(by decide));intro _ _;cbv)
  constructor
  ·intro hc
   cbv
   refine hQ false _ _ _ ?_ ?_
   ·subst hΩ
    have h:(!decide (a*qq a*(a*qq a)=a))=true:=hc
    show false=decide (a*qq a*(a*qq a)=a)
    rw[Bool.not_eq_true']at h;exact h.symm
   ·exact⟨⟨⟨rfl,rfl,rfl⟩,⟨rfl,rfl⟩,trivial⟩,rfl,rfl⟩
  ·intro hc
   cbv
   repeat (constructor;(first|exact fun _=>trivial|exact fun _ _=>(by decide));intro _ _;cbv)
   refine hQ true _ _ _ ?_ ?_
   ·subst hΩ
    have h:(!decide (a*qq a*(a*qq a)=a))=false:=hc
    show true=decide (a*qq a*(a*qq a)=a)
    rw[Bool.not_eq_false']at h;exact h.symm
   ·subst hΩ
    exact⟨⟨rfl,⟨rfl,rfl⟩,trivial⟩,rfl,rfl⟩
end Go.Sx.Tryz
end
section
set_option maxHeartbeats 4000000
namespace Go.Sx.Tryz
open Go.Proofs
def qdP (Ω:Om):qd:=fun args=>match args with
 | []=>⟨True,Unit,fun _=>True,fun _ =>.ab (.pt (Ω.hide _ fun _=>pid))⟩
 | _=>PR.none
theorem qjY:Ctr Tryz.prog T glob 120 (qdP Om.real):=by
 refine qo T_ok qf qg (fun Ω=>[(76,qbE Ω)]) [] (fun Ω=>[]) [] (qb qcw qh) qi qk ql Tryz.func120 (by rfl) (by kernel_rfl) Tryz.call120 ?_ ?_
 ·intro args;unfold qdP;split
  ·exact qt (by repeat' constructor) (fun _ _=>rfl) (by repeat' constructor)
  ·exact PR.good_none
 ·intro P Ω hΩ hE hI hm args pr hs hp Q hQ
  unfold qdP at hs
  split at hs<;>subst hs<;>try (exact hp.elim)
  refine⟨1000,?_⟩
  cbv
  repeat (constructor;(first|exact fun _=>trivial|exact fun _ _=>(by decide));intro _ _;cbv)
  refine hQ () _ _ _ trivial ?_
  subst hΩ
  exact qcW qeY qc1 (by decide +kernel) (by decide +kernel)
def qgW (Ω:Om):qd:=fun args=>match args with
 | [.ab (.fe a),.rop (.ab (.fe o)) (.l 0)]=>⟨True,Unit,fun _=>True,fun _ =>.ab (.fe (Ω.hide _ fun _=>a*o))⟩
 | _=>PR.none
theorem qtd:Ctr Tryz.prog T glob 192 (qgW Om.real):=by
 refine qo T_ok qf qg (fun Ω=>[(84,qaw Ω)]) [] (fun Ω=>[]) [] (qb qaI qh) qi qk ql Tryz.func192 (by rfl) (by kernel_rfl) Tryz.call192 ?_ ?_
 ·intro args;unfold qgW;split
  ·exact qt (by repeat' constructor) (fun _ _=>rfl) (by repeat' constructor)
  ·exact PR.good_none
 ·intro P Ω hΩ hE hI hm args pr hs hp Q hQ
  unfold qgW at hs
  split at hs<;>subst hs<;>try (exact hp.elim)
  rename_i a o
  refine⟨1000,?_⟩
  cbv
  repeat (constructor;(first|exact fun _=>trivial|exact fun _ _=>(by decide));intro _ _;cbv)
  exact hQ () _ _ _ trivial rfl
def qdQ (Ω:Om):qd:=fun args=>match args with
 | [.ab (.pt P)]=>⟨True,Unit,fun _=>True,fun _ =>.tup [.ab (.fe (Ω.hide _ fun _=>P.x)),.ab (.fe (Ω.hide _ fun _=>P.y))]⟩
 | _=>PR.none
theorem qjZ:Ctr Tryz.prog T glob 105 (qdQ Om.real):=by
 refine qap T_ok qf qg (fun Ω=>[(87,qdO Ω),(192,qgW Ω)]) [] (fun Ω=>[]) [] (qb qjW (qb qtd qh)) qi qk ql Tryz.func105 (by rfl) (by kernel_rfl) Tryz.call105 ?_ ?_
 ·intro args;unfold qdQ;split
  ·exact qt (by repeat' constructor) (fun _ _=>rfl) (by repeat' constructor)
  ·exact PR.good_none
 ·intro P Ω hΩ hE hI hm args pr hs hp cs hcs Q hQ
  unfold qdQ at hs
  split at hs<;>subst hs<;>try (exact hp.elim)
  rename_i P
  obtain⟨_,_,rfl,⟨X,Y,Z,rfl,hP,hz,hx,hy⟩,rfl⟩:=hcs
  refine⟨1000,?_⟩
  cbv
  repeat (constructor;(first|exact fun _=>trivial|exact fun _ _=>(by decide));intro _ _;cbv)
  refine hQ () _ _ _ trivial ?_
  subst hΩ
  exact⟨⟨congrArg Pay.fe (qgV hz hx),congrArg Pay.fe (qgV hz hy),trivial⟩,rfl,rfl⟩
def qdR (Ω:Om):qd:=fun args=>match args with
 | [.ab (.pt P),.ab (.pt Q)]=>⟨True,Unit,fun _=>True,fun _ =>.ab (.pt (Ω.hide _ fun _=>padd P Q))⟩
 | _=>PR.none
theorem qj0:Ctr Tryz.prog T glob 60 (qdR Om.real):=by
 refine qap T_ok qf qg (fun Ω=>[(84,qaw Ω),(82,qbP Ω),(83,qcx Ω),(80,qb5 Ω),(78,qb4 Ω)]) [] (fun Ω=>[]) [] (qb qaI (qb qc9 (qb qeV (qb qdJ (qb qdI qh))))) qi qk ql Tryz.func60 (by rfl) (by kernel_rfl) Tryz.call60 ?_ ?_
 ·intro args;unfold qdR;split
  ·exact qt (by repeat' constructor) (fun _ _=>rfl) (by repeat' constructor)
  ·exact PR.good_none
 ·intro P Ω hΩ hE hI hm args pr hs hp cs hcs Q hQ
  unfold qdR at hs
  split at hs<;>subst hs<;>try (exact hp.elim)
  rename_i P R
  obtain⟨_,_,rfl,⟨X1,Y1,Z1,rfl,hP,z1,x1,y1⟩,_,_,rfl,⟨X2,Y2,Z2,rfl,hR,z2,x2,y2⟩,rfl⟩:=hcs
  refine⟨1000,?_⟩
  cbv
  repeat (constructor;(first|exact fun _=>trivial|exact fun _ _=>(by decide));intro _ _;cbv)
  refine hQ () _ _ _ trivial ?_
  subst hΩ
  have h:=qtb hP hR z1 x1 y1 z2 x2 y2
  rw[<- fI_d]at h
  exact qcW (qaT hP hR) h.1 h.2.1 h.2.2
def qgX (Ω:Om):qd:=fun args=>match args with
 | [.ab (.pt P)]=>⟨True,Unit,fun _=>True,fun _ =>.ab (.pt (Ω.hide _ fun _=>padd P P))⟩
 | _=>PR.none
theorem qte:Ctr Tryz.prog T glob 145 (qgX Om.real):=by
 refine qap T_ok qf qg (fun Ω=>[(84,qaw Ω),(82,qbP Ω),(83,qcx Ω),(80,qb5 Ω),(78,qb4 Ω)]) [] (fun Ω=>[]) [] (qb qaI (qb qc9 (qb qeV (qb qdJ (qb qdI qh))))) qi qk ql Tryz.func145 (by rfl) (by kernel_rfl) Tryz.call145 ?_ ?_
 ·intro args;unfold qgX;split
  ·exact qt (by repeat' constructor) (fun _ _=>rfl) (by repeat' constructor)
  ·exact PR.good_none
 ·intro P Ω hΩ hE hI hm args pr hs hp cs hcs Q hQ
  unfold qgX at hs
  split at hs<;>subst hs<;>try (exact hp.elim)
  rename_i P
  obtain⟨_,_,rfl,⟨X,Y,Z,rfl,hP,hz,hx,hy⟩,rfl⟩:=hcs
  refine⟨1000,?_⟩
  cbv
  repeat (constructor;(first|exact fun _=>trivial|exact fun _ _=>(by decide));intro _ _;cbv)
  refine hQ () _ _ _ trivial ?_
  subst hΩ
  have h:=qtc hP hz hx hy
  rw[<- fI_2]at h
  exact qcW (qaT hP hP) h.1 h.2.1 h.2.2
def qgY (Ω:Om):qd:=fun args=>match args with
 | [.ab (.pt P)]=>⟨True,Unit,fun _=>True,fun _ =>.ab (.pt (Ω.hide _ fun _=>pneg P))⟩
 | _=>PR.none
theorem qtf:Ctr Tryz.prog T glob 136 (qgY Om.real):=by
 refine qap T_ok qf qg (fun Ω=>[(81,qc7 Ω)]) [] (fun Ω=>[]) [] (qb qgM qh) qi qk ql Tryz.func136 (by rfl) (by kernel_rfl) Tryz.call136 ?_ ?_
 ·intro args;unfold qgY;split
  ·exact qt (by repeat' constructor) (fun _ _=>rfl) (by repeat' constructor)
  ·exact PR.good_none
 ·intro P Ω hΩ hE hI hm args pr hs hp cs hcs Q hQ
  unfold qgY at hs
  split at hs<;>subst hs<;>try (exact hp.elim)
  rename_i P
  obtain⟨_,_,rfl,⟨X,Y,Z,rfl,hP,hz,hx,hy⟩,rfl⟩:=hcs
  refine⟨1000,?_⟩
  cbv
  repeat (constructor;(first|exact fun _=>trivial|exact fun _ _=>(by decide));intro _ _;cbv)
  refine hQ () _ _ _ trivial ?_
  subst hΩ
  exact qcW (qbj hP) hz (by show -X = -P.x*Z;rw[hx];grind -lia -linarith -order -ac (splits:=0)) hy
def qgZ (Ω:Om):qd:=fun args=>match args with
 | [.agg [.int .i64 b],.ab (.fe x),.ab (.fe y)]=>⟨True,Unit,fun _=>True,fun _ =>.ab (.fe (Ω.hide _ fun _=>if b % 2=0 then x else y))⟩
 | _=>PR.none
theorem qtg:Ctr Tryz.prog T glob 224 (qgZ Om.real):=by
 refine qo T_ok qf qg (fun Ω=>[(182,qdK Ω)]) [] (fun Ω=>[]) [] (qb qjS qh) qi qk ql Tryz.func224 (by rfl) (by kernel_rfl) Tryz.call224 ?_ ?_
 ·intro args;unfold qgZ;split
  ·exact qt (by repeat' constructor) (fun _ _=>rfl) (by repeat' constructor)
  ·exact PR.good_none
 ·intro P Ω hΩ hE hI hm args pr hs hp Q hQ
  unfold qgZ at hs
  split at hs<;>subst hs<;>try (exact hp.elim)
  rename_i b x y
  refine⟨1000,?_⟩
  cbv
  repeat (constructor;(first|exact fun _=>trivial|exact fun _ _=>(by decide));intro _ _;cbv)
  exact hQ () _ _ _ trivial rfl
def qe0 (Ω:Om):qd:=fun args=>match args with
 | [.int .i64 b,.ab (.pt P),.ab (.pt Q)]=>⟨True,Unit,fun _=>True,fun _ =>.ab (.pt (Ω.hide _ fun _=>if b % 2=0 then P else Q))⟩
 | _=>PR.none
theorem qnW:Ctr Tryz.prog T glob 147 (qe0 Om.real):=by
 refine qap T_ok qf qg (fun Ω=>[(224,qgZ Ω)]) [] (fun Ω=>[]) [] (qb qtg qh) qi qk ql Tryz.func147 (by rfl) (by kernel_rfl) Tryz.call147 ?_ ?_
 ·intro args;unfold qe0;split
  ·exact qt (by repeat' constructor) (fun _ _=>rfl) (by repeat' constructor)
  ·exact PR.good_none
 ·intro P Ω hΩ hE hI hm args pr hs hp cs hcs Q hQ
  unfold qe0 at hs
  split at hs<;>subst hs<;>try (exact hp.elim)
  rename_i b P R
  obtain⟨_,_,rfl,rfl,_,_,rfl,⟨X1,Y1,Z1,rfl,hP,z1,x1,y1⟩,_,_,rfl,⟨X2,Y2,Z2,rfl,hR,z2,x2,y2⟩,rfl⟩:=hcs
  refine⟨1000,?_⟩
  cbv
  repeat (constructor;(first|exact fun _=>trivial|exact fun _ _=>(by decide));intro _ _;cbv)
  refine hQ () _ _ _ trivial ?_
  subst hΩ
  by_cases hb:b % 2=0
  ·simp only[Om.real,if_pos hb]
   exact qcW hP z1 x1 y1
  ·simp only[Om.real,if_neg hb]
   exact qcW hR z2 x2 y2
def qg0 (Ω:Om):qd:=fun args=>match args with
 | [.ab (.fe x),.ab (.fe y)]=>⟨True,Bool,fun z=>z=decide (AP.on ⟨x,y⟩),fun z=>match z with|true =>.tup [.ab (.pt (Ω.hide _ fun _=>⟨x,y⟩)),.lit .i64 0]|false =>.tup [.agg [.agg [.row .u64 8 [0,0,0,0,0,0,0,0]],.agg [.row .u64 8 [0,0,0,0,0,0,0,0]],.agg [.row .u64 8 [0,0,0,0,0,0,0,0]]],.lit .i64 13]⟩
 | _=>PR.none
theorem qth:Ctr Tryz.prog T glob 102 (qg0 Om.real):=by
 refine qo T_ok qf qg (fun Ω=>[(82,qbP Ω),(78,qb4 Ω),(76,qbE Ω),(84,qaw Ω),(83,qcx Ω),(36,qc8 Ω)]) [] (fun Ω=>[]) [] (qb qc9 (qb qdI (qb qcw (qb qaI (qb qeV (qb qgN qh)))))) qi qk ql Tryz.func102 (by rfl) (by kernel_rfl) Tryz.call102 ?_ ?_
 ·intro args;unfold qg0;split
  ·exact qba ⟨fun x=>by cases x<;>repeat' (first|exact trivial|constructor),fun E x b=>by cases x<;>rfl⟩ (by repeat' (first|exact trivial|constructor)) (fun _=>⟨_,rfl⟩)
  ·exact PR.good_none
 ·intro P Ω hΩ hE hI hm args pr hs hp Q hQ
  unfold qg0 at hs
  split at hs<;>subst hs<;>try (exact hp.elim)
  rename_i x y
  refine⟨1000,?_⟩
  cbv
  repeat (constructor;(first|exact fun _=>trivial|exact fun _ _=>(by decide));intro _ _;cbv)
  constructor
  ·intro hc
   cbv
   refine hQ false _ _ _ ?_ ?_
   ·subst hΩ
    have h:(!decide (x*x+y*y=fI 1+x*x*(y*y)*fI (-39081)))=true:=hc
    show false=decide (AP.on ⟨x,y⟩)
    rw[Bool.not_eq_true']at h
    rw[<- h];congr 1;exact propext (qnV x y)
   ·exact⟨⟨⟨⟨⟨rfl,rfl,rfl⟩,trivial⟩,⟨⟨rfl,rfl,rfl⟩,trivial⟩,⟨⟨rfl,rfl,rfl⟩,trivial⟩,trivial⟩,⟨rfl,rfl⟩,trivial⟩,rfl,rfl⟩
  ·intro hc
   cbv
   repeat (constructor;(first|exact fun _=>trivial|exact fun _ _=>(by decide));intro _ _;cbv)
   have hon:AP.on ⟨x,y⟩:=by
    subst hΩ
    have h:(!decide (x*x+y*y=fI 1+x*x*(y*y)*fI (-39081)))=false:=hc
    rw[Bool.not_eq_false',decide_eq_true_eq]at h
    exact(qnV x y).1 h
   refine hQ true _ _ _ ?_ ?_
   ·exact(decide_eq_true hon).symm
   ·subst hΩ
    refine⟨⟨qcW hon qnU ?_ ?_,⟨rfl,rfl⟩,trivial⟩,rfl,rfl⟩
    ·show x=x*fI 1
     rw[qao];grind -lia -linarith -order -ac (splits:=0)
    ·show y=y*fI 1
     rw[qao];grind -lia -linarith -order -ac (splits:=0)
end Go.Sx.Tryz
end
section
set_option maxHeartbeats 4000000
namespace Go.Sx.Tryz
open Go.Proofs
def qxp (Ω:Om):qd:=fun args=>match args with
 | [.roi .u8 xs,.roi .u8 ys]=>⟨∀ _:Unit,xs.length<9223372036854775808/\ys.length<9223372036854775808,Unit,fun _=>True,fun _ =>.bs (Ω.hide _ fun _=>xs == ys)⟩
 | _=>PR.none
def qg2 (Ω:Om):qd:=fun args=>match args with
 | [.roa (.fe xs)]=>⟨∀ _:Unit,xs.length<9223372036854775808,Unit,fun _=>True,fun _ =>.ab (.fe (Ω.hide _ fun _=>qV xs))⟩
 | _=>PR.none
theorem qtj:Ctr Tryz.prog T glob 110 (qg2 Om.real):=by
 refine qo T_ok qf qg (fun Ω=>[(84,qaw Ω),(76,qbE Ω)]) [] (fun Ω=>[]) [] (qb qaI (qb qcw qh)) qi qk ql Tryz.func110 (by rfl) (by kernel_rfl) Tryz.call110 ?_ ?_
 ·intro args;unfold qg2;split
  ·exact qt (by repeat' constructor) (fun _ _=>rfl) (by repeat' constructor)
  ·exact PR.good_none
 ·intro P Ω hΩ hE hI hm args pr hs hp Q hQ
  unfold qg2 at hs
  split at hs<;>subst hs<;>try (exact hp.elim)
  rename_i xs
  have hx:=hp ()
  refine⟨1000,?_⟩
  cbv
  repeat (constructor;(first|exact fun _=>trivial|exact fun _ _=>(by decide));intro _ _;cbv)
  obtain⟨L,hL⟩ : ∃ L,L=xs.length:=⟨_,rfl⟩
  obtain⟨one,hone⟩ : ∃ one,one=fI 1:=⟨_,rfl⟩
  have hlo:Ω.hide Nat (fun _=>xs.length)=L:=by subst hΩ;exact hL.symm
  rw[<- hL]at hx
  refine qr hE hI hm (fun z:Nat × Fp=>(mkT 18 [(2,.ptr 0 (.l 0)),(3,.ptr 16 (.l 0)),(7,.roa (.fe xs)),(8,.int .i64 L),(9,.int .i64 z.1)],[(16,.ab (.fe z.2)),(0,.agg [.row .u64 8 [0,0,0,0,0,0,0,0]])])) (fun z=>z.1<=L/\z.2=qV (xs.take z.1)) (fun z=>L-z.1) 0 ⟨(0,one),[],⟨Nat.zero_le _,hone⟩,Nat.le_refl _,?_⟩ fun z hz=>⟨1000,?_⟩
  ·cbv
   subst hΩ
   exact⟨congrArg Int.ofNat hL.symm,rfl,congrArg Pay.fe hone.symm,trivial⟩
  obtain⟨i,y⟩:=z
  obtain⟨hi,hy⟩:i<=L/\y=qV (xs.take i):=hz
  cbv
  constructor
  ·intro hc
   cbv
   rw[hΩ]at hc;simp (disch:=omega) only[Om.real,qc,decide_eq_true_eq,decide_eq_false_iff_not]at hc
   constructor
   ·intro _
    refine⟨Int.natCast_nonneg _,?_⟩
    show(i:Int)<((Ω.hide Nat (fun _=>xs.length):Nat):Int)
    rw[hlo];omega
   constructor
   ·intro _
    subst hΩ
    show i<xs.length;omega
   repeat (constructor;(first|exact fun _=>trivial|exact fun _ _=>(by decide));intro _ _;cbv)
   obtain⟨y2,hy2⟩ : ∃ y2,y2=y*xs.getD i 0:=⟨_,rfl⟩
   refine⟨(i+1,y2),[],⟨hc,?_⟩,by simp only;omega,Nat.zero_le _,?_⟩
   ·show y2=qV (xs.take (i+1))
    rw[hy2,hy]
    exact qnX xs i (by omega)
   cbv
   subst hΩ
   simp (disch:=omega) only[Om.real,qc]
   exact⟨trivial,⟨by rw[hy2],trivial⟩⟩
  ·intro hc
   cbv
   rw[hΩ]at hc;simp (disch:=omega) only[Om.real,qc,decide_eq_true_eq,decide_eq_false_iff_not]at hc
   have e:i=xs.length:=by omega
   refine hQ () _ _ _ trivial ?_
   subst hΩ
   show Pay.fe y=Pay.fe (qV xs)
   rw[hy,e,List.take_length]
end Go.Sx.Tryz
end
section
set_option maxHeartbeats 4000000
namespace Go.Sx.Tryz
open Go.Proofs
set_option maxRecDepth 40000
def qg3 (Ω:Om):qd:=fun args=>match args with
 | []=>⟨True,Unit,fun _=>True,fun _ =>.tup [.ab (.fe (Ω.hide _ fun _=>qdb)),.ab (.fe (Ω.hide _ fun _=>qdc))]⟩
 | _=>PR.none
theorem qtk:Ctr Tryz.prog T glob 111 (qg3 Om.real):=by
 refine qo T_ok qf qg (fun Ω=>[(76,qbE Ω),(195,qgT Ω),(87,qdO Ω)]) [] (fun Ω=>[]) [] (qb qcw (qb qs1 (qb qjW qh))) qi qk ql Tryz.func111 (by rfl) (by kernel_rfl) Tryz.call111 ?_ ?_
 ·intro args;unfold qg3;split
  ·exact qt (by repeat' constructor) (fun _ _=>rfl) (by repeat' constructor)
  ·exact PR.good_none
 ·intro P Ω hΩ hE hI hm args pr hs hp Q hQ
  unfold qg3 at hs
  split at hs<;>subst hs<;>try (exact hp.elim)
  refine⟨1000,?_⟩
  cbv
  constructor
  ·exact fun _ _=>(by decide)
  intro _ _
  cbv
  constructor
  ·exact fun _=>trivial
  intro z hz
  have hz1:z=true:=by
   subst hΩ
   rw[show z=_ from hz]
   exact decide_eq_true (qg1 pw_d)
  subst hz1
  cbv
  constructor
  ·exact fun _ _=>(by decide)
  intro _ _
  cbv
  constructor
  ·exact fun _=>trivial
  intro _ _
  cbv
  constructor
  ·exact fun _=>trivial
  intro z hz
  have hz1:z=true:=by
   subst hΩ
   rw[show z=_ from hz]
   exact decide_eq_true (qg1 pw_e)
  subst hz1
  cbv
  refine hQ () _ _ _ trivial ?_
  subst hΩ
  exact⟨⟨rfl,rfl,trivial⟩,rfl,rfl⟩
def qcy (Ω:Om):qd:=fun args=>match args with
 | []=>⟨True,Unit,fun _=>True,fun _ =>.ab (.pt (Ω.hide _ fun _=>pid))⟩
 | _=>PR.none
theorem qe1:Ctr Tryz.prog T glob 49 (qcy Om.real):=by
 refine qo T_ok qf qg (fun Ω=>[(120,qdP Ω)]) [] (fun Ω=>[]) [] (qb qjY qh) qi qk ql Tryz.func49 (by rfl) (by kernel_rfl) Tryz.call49 ?_ ?_
 ·intro args;unfold qcy;split
  ·exact qt (by repeat' constructor) (fun _ _=>rfl) (by repeat' constructor)
  ·exact PR.good_none
 ·intro P Ω hΩ hE hI hm args pr hs hp Q hQ
  unfold qcy at hs
  split at hs<;>subst hs<;>try (exact hp.elim)
  refine⟨1000,?_⟩
  cbv
  repeat (constructor;(first|exact fun _=>trivial|exact fun _ _=>(by decide));intro _ _;cbv)
  refine hQ () _ _ _ trivial ?_
  subst hΩ
  rfl
def qg4 (Ω:Om):qd:=fun args=>match args with
 | [.ab (.pt P),.ab (.pt Q)]=>⟨True,Unit,fun _=>True,fun _ =>.ab (.pt (Ω.hide _ fun _=>padd P Q))⟩
 | _=>PR.none
theorem qtl:Ctr Tryz.prog T glob 41 (qg4 Om.real):=by
 refine qo T_ok qf qg (fun Ω=>[(60,qdR Ω)]) [] (fun Ω=>[]) [] (qb qj0 qh) qi qk ql Tryz.func41 (by rfl) (by kernel_rfl) Tryz.call41 ?_ ?_
 ·intro args;unfold qg4;split
  ·exact qt (by repeat' constructor) (fun _ _=>rfl) (by repeat' constructor)
  ·exact PR.good_none
 ·intro P Ω hΩ hE hI hm args pr hs hp Q hQ
  unfold qg4 at hs
  split at hs<;>subst hs<;>try (exact hp.elim)
  refine⟨1000,?_⟩
  cbv
  repeat (constructor;(first|exact fun _=>trivial|exact fun _ _=>(by decide));intro _ _;cbv)
  refine hQ () _ _ _ trivial ?_
  subst hΩ
  rfl
def qe2 (Ω:Om):qd:=fun args=>match args with
 | [.ab (.pt P),.ab (.pt Q)]=>⟨True,Unit,fun _=>True,fun _ =>.bs (Ω.hide _ fun _=>decide (P.x*Q.y=P.y*Q.x))⟩
 | _=>PR.none
theorem qnY:Ctr Tryz.prog T glob 35 (qe2 Om.real):=by
 refine qo T_ok qf qg (fun Ω=>[(105,qdQ Ω),(84,qaw Ω),(36,qc8 Ω)]) [] (fun Ω=>[]) [] (qb qjZ (qb qaI (qb qgN qh))) qi qk ql Tryz.func35 (by rfl) (by kernel_rfl) Tryz.call35 ?_ ?_
 ·intro args;unfold qe2;split
  ·exact qt (by repeat' constructor) (fun _ _=>rfl) (by repeat' constructor)
  ·exact PR.good_none
 ·intro P Ω hΩ hE hI hm args pr hs hp Q hQ
  unfold qe2 at hs
  split at hs<;>subst hs<;>try (exact hp.elim)
  refine⟨1000,?_⟩
  cbv
  repeat (constructor;(first|exact fun _=>trivial|exact fun _ _=>(by decide));intro _ _;cbv)
  refine hQ () _ _ _ trivial ?_
  subst hΩ
  rfl
def qe3 (Ω:Om):qd:=fun args=>match args with
 | [.ab (.pt P)]=>⟨True,List Int × Nat,fun z=>z.1=qah (encF P)/\z.1.length<=z.2,fun z =>.fr .u8 z.1 z.2⟩
 | _=>PR.none
theorem qnZ:Ctr Tryz.prog T glob 44 (qe3 Om.real):=by
 refine qo T_ok qf qg (fun Ω=>[(105,qdQ Ω),(84,qaw Ω),(78,qb4 Ω),(80,qb5 Ω),(76,qbE Ω),(110,qg2 Ω),(83,qcx Ω),(85,qeX Ω),(111,qg3 Ω),(89,qda Ω),(98,qeQ Ω)]) [] (fun Ω=>[]) [] (qb qjZ (qb qaI (qb qdI (qb qdJ (qb qcw (qb qtj (qb qeV (qb qnT (qb qtk (qb qgS (qb qnK qh))))))))))) qi qk ql Tryz.func44 (by rfl) (by kernel_rfl) Tryz.call44 ?_ ?_
 ·intro args;unfold qe3;split
  ·exact qaE ⟨trivial,trivial⟩ fun _=>qa5 _
  ·exact PR.good_none
 ·intro P Ω hΩ hE hI hm args pr hs hp Q hQ
  unfold qe3 at hs
  split at hs<;>subst hs<;>try (exact hp.elim)
  rename_i P
  refine⟨1000,?_⟩
  cbv
  repeat (first|(constructor;(first|exact fun _=>trivial|exact fun _ _=>(by decide));intro _ _;cbv)|(refine⟨fun _=>⟨trivial,trivial⟩,fun _ _=>(Nat.le_of_ble_eq_true rfl),?_⟩;intro _ _;cbv))
  rename_i w hw
  have hw:w.1=qah (encF P)/\w.1.length<=w.2:=by subst hΩ;exact hw
  refine hQ w _ _ _ hw ?_
  subst hΩ
  exact⟨rfl,rfl,by show 0+w.1.length<=w.1.length;omega,List.take_length.symm⟩
end Go.Sx.Tryz
end
section

end
