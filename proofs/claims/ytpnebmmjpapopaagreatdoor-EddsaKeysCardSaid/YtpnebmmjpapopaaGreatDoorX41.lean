/-
  Part of the proof of a statement: the means.
-/
import Derived.Test.YtpnebmmjpapopaaGreatDoorX16
import Derived.Test.YtpnebmmjpapopaaGreatDoorX17
import Derived.Test.YtpnebmmjpapopaaGreatDoorX10
import Derived.Test.YtpnebmmjpapopaaGreatDoorX24
import Derived.Test.YtpnebmmjpapopaaGreatDoorX13
import Derived.Test.YtpnebmmjpapopaaGreatDoorX4
set_option linter.unusedSectionVars false
set_option linter.unusedVariables false
set_option linter.unusedSimpArgs false
set_option linter.deprecated false
section
set_option maxHeartbeats 4000000
namespace Go.Sx.Tryz
open Go.Proofs
set_option maxRecDepth 40000
def dblN:Nat->AP->AP
 | 0,A=>A
 | n+1,A=>padd (dblN n A) (dblN n A)
def qgH (Ω:Om):qe:=fun args=>match args with
 | [.ab (.pt A),.int .i64 n]=>⟨∀ _:Unit,0<=n/\n<=512,Unit,fun _=>True,fun _ =>.ab (.pt (Ω.hide _ fun _=>dblN n.toNat A))⟩
 | _=>PR.none
theorem qth:Ctr Tryz.prog T glob 259 (qgH Om.real):=by
 refine qq T_ok qf qg (fun Ω=>[(145,qeb Ω)]) [] (fun Ω=>[]) [] (qc qmB qh) qi qk ql Tryz.func259 (by rfl) (by kernel_rfl) Tryz.call259 ?_ ?_
 ·intro args;unfold qgH;split
  ·exact qo (by repeat' constructor) (fun _ _=>rfl) (by repeat' constructor)
  ·exact PR.good_none
 ·intro P Ω hΩ hE hI hm args pr hs hp Q hQ
  unfold qgH at hs
  split at hs<;>subst hs<;>try (exact hp.elim)
  rename_i A n
  obtain⟨h0,h1⟩:=hp ()
  refine⟨1000,?_⟩
  conv=>cbv
  obtain⟨N,hN⟩ : ∃ N:Nat,n=N:=⟨n.toNat,by omega⟩
  have hN2:n.toNat=N:=by omega
  rw[hN2]at hQ
  refine qn hE hI hm (fun z:Nat × AP=>(mkT 12 [(2,.ptr 0 (.l 0)),(4,.ptr 8 (.l 0)),(5,.int .i64 n),(6,.int .i64 z.1)],[(8,.agg [.agg [.row .u64 8 [0,0,0,0,0,0,0,0]],.agg [.row .u64 8 [0,0,0,0,0,0,0,0]],.agg [.row .u64 8 [0,0,0,0,0,0,0,0]]]),(0,.ab (.pt z.2))])) (fun z=>z.1<=N/\z.2=dblN z.1 A) (fun z=>N-z.1) 0 ⟨(0,A),[],⟨Nat.zero_le _,rfl⟩,Nat.zero_le _,?_⟩ fun z hz=>⟨1000,?_⟩
  ·conv=>cbv
   trivial
  obtain⟨i,X⟩:=z
  obtain⟨hi,hX⟩:i<=N/\X=dblN i A:=hz
  conv=>cbv
  constructor
  ·intro hc2
   have hlt:(i:Int)<n:=by subst hΩ;exact of_decide_eq_true hc2
   obtain⟨X2,hX2⟩ : ∃ X2,X2=padd X X:=⟨_,rfl⟩
   conv=>cbv
   constructor;(first|exact fun(_:Unit)=>trivial|exact fun(_:Unit) (_:Unit)=>(by decide));intro _ _;conv=>cbv
   refine⟨(i+1,X2),[],⟨by show i+1<=N;omega,?_⟩,by show N-(i+1)<N-i;omega,Nat.zero_le _,?_⟩
   ·show X2=dblN (i+1) A
    rw[hX2,hX]
    rfl
   ·conv=>cbv
    subst hΩ
    refine⟨?_,by rw[hX2];rfl⟩
    show binL .add .i64 (i:Int) 1=((i+1:Nat):Int)
    rw[qF (by omega) (by omega)];omega
  ·intro hc2
   have hge : ¬ (i:Int)<n:=by subst hΩ;exact of_decide_eq_false hc2
   have hiN:i=N:=by omega
   rw[hiN]at hX
   conv=>cbv
   refine hQ () _ _ _ trivial ?_
   subst hΩ
   show Pay.pt X=Pay.pt (dblN N A)
   rw[hX]
end Go.Sx.Tryz
end
section
set_option maxHeartbeats 4000000
namespace Go.Sx
def colV (V m i:Nat):Nat->Nat
 | 0=>0
 | k+1=>colV V m i k+bitN V (i+k*m)*2^k
theorem qes (V m i:Nat) : ∀ k,colV V m i k<2^k
 | 0=>by show 0<1;decide
 | k+1=>by
   have h:=qes V m i k
   have hb:=qcW V (i+k*m)
   have h2:bitN V (i+k*m)*2^k<=1*2^k:=Nat.mul_le_mul_right _ (by omega)
   show colV V m i k+bitN V (i+k*m)*2^k<2^(k+1)
   rw[Nat.pow_succ]
   omega
theorem qti (V m i:Nat) {k:Nat} (hk:k<16):binL .or .i64 ((colV V m i k:Nat):Int) (binL .shl .i64 ((bitN V (i+k*m):Nat):Int) (k:Int))=((colV V m i (k+1):Nat):Int):=by
 have hb:=qcW V (i+k*m)
 have h16:2^k<65536:=Nat.lt_of_lt_of_le (Nat.pow_lt_pow_right (by decide) hk) (by decide)
 have hm:=qes V m i k
 have hbk:bitN V (i+k*m)*2^k<=1*2^k:=Nat.mul_le_mul_right _ (by omega)
 rw[qrv (by omega) (by omega),sorN (by omega) (by omega),Nat.or_comm,qru hm]
 show _=((colV V m i k+bitN V (i+k*m)*2^k:Nat):Int)
 rw[Nat.add_comm]
def qa3 (V w m n:Nat):List Int:=(List.range n).map fun i=>((colV V m i w:Nat):Int)
theorem qi2 (V w m n:Nat):(qa3 V w m n).length=n:=by simp[qa3]
theorem qtj (V w m n:Nat):qa3 V w m (n+1)=qa3 V w m n++[((colV V m n w:Nat):Int)]:=by
 simp[qa3,List.range_succ]
end Go.Sx
namespace Go.Sx.Tryz
open Go.Proofs
set_option maxRecDepth 40000
def qgI (Ω:Om):qe:=fun args=>match args with
 | [.roi .u8 bs,.int .i64 w]=>⟨∀ _:Unit,(Byt bs/\bs.length<=64)/\1<=w/\w<=8,List Int × Nat,fun z=>z.1=qa3 (nV bs) w.toNat ((8*bs.length+w.toNat-1) / w.toNat) ((8*bs.length+w.toNat-1) / w.toNat)/\z.1.length<=z.2,fun z =>.tup [.fr .i64 z.1 z.2,.int .i64 0]⟩
 | _=>PR.none
noncomputable def qtk:List (FuncId × Func):=[(220,Tryz.f220),(252,Tryz.f252),(254,Tryz.f254),(253,Tryz.f253)]
theorem qtl:Ctr Tryz.prog T glob 236 (qgI Om.real):=by
 refine qq T_ok qf qg (fun Ω=>[(261,qfJ Ω)]) qtk (fun Ω=>[]) [] (qc qrz qh) (qE Tryz.call220 Tryz.func220 (by kernel_rfl) (qE Tryz.call252 Tryz.func252 (by kernel_rfl) (qE Tryz.call254 Tryz.func254 (by kernel_rfl) (qE Tryz.call253 Tryz.func253 (by kernel_rfl) qi)))) qk ql Tryz.func236 (by rfl) (by kernel_rfl) Tryz.call236 ?_ ?_
 ·intro args;unfold qgI;split
  ·exact qfI ⟨trivial,trivial,trivial⟩ fun _=>qaM _
  ·exact PR.good_none
 ·intro P Ω hΩ hE hI hm args pr hs hp Q hQ
  unfold qgI at hs
  split at hs<;>subst hs<;>try (exact hp.elim)
  rename_i bs w
  obtain⟨⟨hb,lb⟩,w0,w1⟩:=hp ()
  refine⟨1000,?_⟩
  conv=>cbv
  obtain⟨W,eW⟩ : ∃ W:Nat,w=(W:Int):=⟨w.toNat,by omega⟩
  have eW2:w.toNat=W:=by omega
  obtain⟨N,eN⟩ : ∃ N:Nat,N=(8*bs.length+W-1) / W:=⟨_,rfl⟩
  have hNl:N<=8*bs.length+W-1:=by rw[eN];exact Nat.div_le_self _ _
  obtain⟨K,hK⟩ : ∃ K,Ω.bin .quo .i64 (Ω.bin .sub .i64 (Ω.bin .add .i64 (Ω.bin .mul .i64 8 (Ω.ofN (Ω.len bs))) w) 1) w=K:=⟨_,rfl⟩
  have eK:K=(N:Int):=by
   rw[<- hK,hΩ,eN,eW]
   show binL .quo .i64 (binL .sub .i64 (binL .add .i64 (binL .mul .i64 8 ((bs.length:Nat):Int)) W) 1) W=_
   rw[qbe (by omega) (by omega),qF (by omega) (by omega),qad (by omega) (by omega),show 8*((bs.length:Nat):Int)+W-1=((8*bs.length+W-1:Nat):Int)by omega,qdI _ _ (by omega)]
  rw[eW2,<- eN]at hQ
  conv at hK=>lhs;cbv
  conv=>cbv
  constructor
  ·intro h
   have h':False:=by (subst hΩ;have h2:=of_decide_eq_true h;change ((bs.length:Nat):Int) > 64 at h2;omega);first|done|(subst hΩ;exact Bool.noConfusion (show false=true from h))
   contradiction
  intro _
  conv=>cbv
  refine qau hE hI hm (n:=1000) ?_
  conv=>cbv
  constructor
  ·intro h
   have h':False:=by (subst hΩ;have h2:=of_decide_eq_true h;change w<1 at h2;omega);first|done|(subst hΩ;exact Bool.noConfusion (show false=true from h))
   contradiction
  intro _
  conv=>cbv
  constructor
  ·intro h
   have h':False:=by (subst hΩ;have h2:=of_decide_eq_true h;change w > 8 at h2;omega);first|done|(subst hΩ;exact Bool.noConfusion (show false=true from h))
   contradiction
  intro _
  conv=>cbv
  refine qau hE hI hm (n:=1000) ?_
  conv=>cbv
  constructor
  ·exact fun _=>by omega
  rw[hK]
  refine qn hE hI hm (fun z:Nat × List Int × Nat=>(mkT 37 [(0,.roi .u8 bs),(1,.int .i64 w),(4,.val (.slice none 0 0)),(5,.lit .i64 0),(7,.fn 261 [] [.ptr 304 (.l 0)]),(8,.int .i64 K),(9,.sl 440 1 (.l 0) (.s (Ω.len z.2.1)) (.s z.2.2)),(23,.int .i64 K),(24,.int .i64 z.1)],[(440,.seq .i64 z.2.1),(304,.roi .u8 bs)])) (fun z=>z.1<=N/\z.2.1=qa3 (nV bs) W N z.1/\z.2.1.length<=z.2.2) (fun z=>N-z.1) 1 ⟨(0,[],0),[none],⟨Nat.zero_le _,rfl,Nat.le_refl _⟩,by show 1<=8*1;decide,?_⟩ fun z hz=>⟨1000,?_⟩
  ·conv=>cbv
   exact⟨by rw[hΩ];rfl,rfl,trivial⟩
  obtain⟨i,l,cap⟩:=z
  obtain⟨hi,hl,hcap⟩:i<=N/\l=qa3 (nV bs) W N i/\l.length<=cap:=hz
  conv=>cbv
  constructor
  ·intro hc
   have hlt:(i:Int)<K:=by subst hΩ;exact of_decide_eq_true hc
   refine qn hE hI hm (fun z:Nat × Int=>(mkT 28 [(0,.fn 261 [] [.ptr 304 (.l 0)]),(1,.int .i64 i),(2,.int .i64 K),(3,.int .i64 w),(8,.lit .i64 0),(9,.int .i64 z.2),(11,.int .i64 w),(12,.int .i64 z.1)],[(440,.seq .i64 l),(304,.roi .u8 bs)])) (fun z=>z.1<=W/\z.2=((colV (nV bs) N i z.1:Nat):Int)) (fun z=>W-z.1) 0 ⟨(0,0),[],⟨Nat.zero_le _,rfl⟩,Nat.zero_le _,?_⟩ fun z hz=>⟨1000,?_⟩
   ·conv=>cbv
    trivial
   obtain⟨k,n⟩:=z
   obtain⟨hk,hn⟩:k<=W/\n=((colV (nV bs) N i k:Nat):Int):=hz
   conv=>cbv
   constructor
   ·intro hc2
    have hlt2:(k:Int)<w:=by subst hΩ;exact of_decide_eq_true hc2
    obtain⟨p,hp2⟩ : ∃ p,Ω.bin .add .i64 (Int.ofNat i) (Ω.bin .mul .i64 (Int.ofNat k) K)=p:=⟨_,rfl⟩
    have ep:p=((i+k*N:Nat):Int):=by
     have hkN:k*N<=8*N:=Nat.mul_le_mul_right _ (by omega)
     rw[<- hp2,hΩ,eK]
     show binL .add .i64 (i:Int) (binL .mul .i64 (k:Int) (N:Int))=_
     have h1:(k:Int)*(N:Int)=((k*N:Nat):Int):=rfl
     rw[qbe (by omega) (by omega),h1,qF (by omega) (by omega)];omega
    obtain⟨k2,hk2⟩ : ∃ k2,Ω.bin .add .i64 (Int.ofNat k) 1=k2:=⟨_,rfl⟩
    have ek2:k2=((k+1:Nat):Int):=by
     rw[<- hk2,hΩ]
     show binL .add .i64 (k:Int) 1=_
     rw[qF (by omega) (by omega)];omega
    obtain⟨n2,hn2⟩ : ∃ n2:Int,((colV (nV bs) N i (k+1):Nat):Int)=n2:=⟨_,rfl⟩
    have hst:=qti (nV bs) N i (show k<16 by omega)
    rw[hn2,<- hn]at hst
    conv at hp2=>lhs;cbv
    conv at hk2=>lhs;cbv
    conv=>cbv
    rw[hp2]
    constructor
    ·exact fun _ _=>⟨⟨hb,by omega⟩,by omega⟩
    intro _ _
    conv=>cbv
    rw[hk2]
    constructor
    ·exact fun _=>Int.natCast_nonneg k
    refine⟨(k+1,n2),[],⟨by show k+1<=W;omega,hn2.symm⟩,by show W-(k+1)<W-k;omega,Nat.zero_le _,?_⟩
    conv=>cbv
    refine⟨?_,ek2,trivial⟩
    rw[<- hst,hΩ,ep]
    rfl
   ·intro hc2
    have hge : ¬ (k:Int)<w:=by subst hΩ;exact of_decide_eq_false hc2
    have hkW:k=W:=by omega
    rw[hkW]at hn
    have hll:l.length=i:=by rw[hl,qi2]
    obtain⟨l2,hl2⟩ : ∃ l2,l++[n]=l2:=⟨_,rfl⟩
    have el2:l2=qa3 (nV bs) W N (i+1):=by rw[<- hl2,qtj,hl,hn]
    have hl2l:l2.length=i+1:=by rw[el2,qi2]
    obtain⟨i2,hi2⟩ : ∃ i2,Ω.bin .add .i64 (Int.ofNat i) 1=i2:=⟨_,rfl⟩
    have ei2:i2=((i+1:Nat):Int):=by
     rw[<- hi2,hΩ]
     show binL .add .i64 (i:Int) 1=_
     rw[qF (by omega) (by omega)];omega
    have hcat:Ω.cat (Ω.sub l 0 (Ω.len l)) [n]=l2:=by
     rw[hΩ];show(l.drop 0).take l.length++[n]=l2
     rw[List.drop_zero,List.take_length];exact hl2
    have hlen2:Ω.nadd (Ω.len l) 1=Ω.len l2:=by rw[hΩ];show l.length+1=l2.length;omega
    conv at hi2=>lhs;cbv
    conv at hcat=>lhs;cbv
    conv at hlen2=>lhs;cbv
    conv at hlen2=>rhs;cbv
    conv=>cbv
    constructor
    ·exact fun _=>by subst hΩ;show(l.length+1)*8<=140737488355328;omega
    constructor
    ·exact fun _=>by subst hΩ;exact⟨(show 0+l.length*1<=l.length by omega),(show 0+1*1<=1 by decide)⟩
    intro cap2 hcap2
    have hcap3:l2.length<=cap2:=by
     subst hΩ
     have h:l.length+1<=cap2:=hcap2
     omega
    conv=>cbv
    rw[hcat,hi2]
    rw[hlen2]
    refine⟨(i+1,l2,cap2),[some 528],⟨by show i+1<=N;omega,el2,hcap3⟩,by show N-(i+1)<N-i;omega,by show 1<=8*1;decide,?_⟩
    conv=>cbv
    exact⟨ei2,trivial⟩
  ·intro hc
   have hge : ¬ (i:Int)<K:=by subst hΩ;exact of_decide_eq_false hc
   have hiN:i=N:=by omega
   rw[hiN]at hl
   have hsl:Ω.sub l 0 (Ω.len l)=l:=by
    rw[hΩ];show(l.drop 0).take l.length=l
    rw[List.drop_zero,List.take_length]
   conv=>cbv
   refine hQ (l,cap) _ _ _ ⟨hl,hcap⟩ ?_
   rw[hΩ]at hsl
   subst hΩ
   exact⟨⟨⟨rfl,rfl,(show 0+l.length<=l.length by omega),hsl.symm⟩,⟨rfl,rfl⟩,trivial⟩,rfl,rfl⟩
end Go.Sx.Tryz
end
section
set_option maxHeartbeats 4000000
namespace Go.Sx.Tryz
open Go.Proofs
set_option maxRecDepth 40000
theorem qtm {args:List SVal} {p:Prop} {post:List AP × Nat->Prop} (hc:IdsLtL noId args) (h:p -> ∃ x,post x):PR.Good ⟨p,List AP × Nat,post,fun z =>.tup [.fra (.pt z.1) z.2,.int .i64 0]⟩ args :=
 ⟨fun _=>⟨trivial,trivial,trivial⟩,fun E x b q hq=>by simp[place,place.placeL]at hq;subst hq;exact⟨Nat.le_refl _,by simp⟩,fun _=>hc,h⟩
def powL (m:Nat) (A:AP) (n:Nat):List AP:=(List.range n).map fun i=>dblN (i*m) A
theorem qnI (m:Nat) (A:AP) (n:Nat):(powL m A n).length=n:=by simp[powL]
theorem qtn (m:Nat) (A:AP) (n:Nat):powL m A (n+1)=powL m A n++[dblN (n*m) A]:=by
 simp[powL,List.range_succ]
theorem qnJ (A:AP) (i:Nat) : ∀ m,dblN m (dblN i A)=dblN (i+m) A
 | 0=>rfl
 | m+1=>by
   show padd (dblN m (dblN i A)) (dblN m (dblN i A))=padd (dblN (i+m) A) (dblN (i+m) A)
   rw[qnJ A i m]
def qgJ (Ω:Om):qe:=fun args=>match args with
 | [.ab (.pt A),.int .i64 n,.int .i64 m]=>⟨∀ _:Unit,(1<=n/\n<=64)/\0<=m/\m<=512,List AP × Nat,fun z=>z.1=powL m.toNat A n.toNat/\z.1.length<=z.2,fun z =>.tup [.fra (.pt z.1) z.2,.int .i64 0]⟩
 | _=>PR.none
theorem qto:Ctr Tryz.prog T glob 233 (qgJ Om.real):=by
 refine qq T_ok qf qg (fun Ω=>[(259,qgH Ω)]) [] (fun Ω=>[]) [] (qc qth qh) qi qk ql Tryz.func233 (by rfl) (by kernel_rfl) Tryz.call233 ?_ ?_
 ·intro args;unfold qgJ;split
  ·exact qtm ⟨trivial,trivial,trivial,trivial⟩ fun _=>qrS _
  ·exact PR.good_none
 ·intro P Ω hΩ hE hI hm args pr hs hp Q hQ
  unfold qgJ at hs
  split at hs<;>subst hs<;>try (exact hp.elim)
  rename_i A n m
  obtain⟨⟨n0,n1⟩,m0,m1⟩:=hp ()
  refine⟨1000,?_⟩
  conv=>cbv
  constructor
  ·intro h
   have h':False:=by (subst hΩ;have h2:=of_decide_eq_true h;change n<0 at h2;omega);first|done|(subst hΩ;exact Bool.noConfusion (show false=true from h))
   contradiction
  intro _
  conv=>cbv
  constructor
  ·intro h
   have h':False:=by (subst hΩ;have h2:=of_decide_eq_true h;change n > 64 at h2;omega);first|done|(subst hΩ;exact Bool.noConfusion (show false=true from h))
   contradiction
  intro _
  conv=>cbv
  constructor
  ·intro h
   have h':False:=by (subst hΩ;have h2:=of_decide_eq_true h;change m<0 at h2;omega);first|done|(subst hΩ;exact Bool.noConfusion (show false=true from h))
   contradiction
  intro _
  conv=>cbv
  constructor
  ·intro h
   have h':False:=by (subst hΩ;have h2:=of_decide_eq_true h;change m > 512 at h2;omega);first|done|(subst hΩ;exact Bool.noConfusion (show false=true from h))
   contradiction
  intro _
  conv=>cbv
  refine qau hE hI hm (n:=1000) ?_
  conv=>cbv
  constructor
  rotate_left
  ·intro h
   have h':False:=by (subst hΩ;have h2:=of_decide_eq_false h;change ¬ (0:Int)<n at h2;omega);first|done|(subst hΩ;exact Bool.noConfusion (show true=false from h))
   contradiction
  intro _
  conv=>cbv
  constructor
  ·exact fun _=>(by decide:(0+1)*192<=140737488355328)
  constructor
  ·exact fun _=>⟨rfl,rfl,by decide⟩
  intro cap hcap
  have hcap1:1<=cap:=by have h:0+1<=cap:=hcap;omega
  conv=>cbv
  constructor
  ·exact fun(_:Unit) (_:Unit)=>⟨m0,m1⟩
  intro _ _
  conv=>cbv
  obtain⟨N,hN⟩ : ∃ N:Nat,n=N:=⟨n.toNat,by omega⟩
  have hN2:n.toNat=N:=by omega
  rw[hN2]at hQ
  obtain⟨M,hM⟩ : ∃ M:Nat,m.toNat=M:=⟨_,rfl⟩
  obtain⟨Ps0,hPs0⟩ : ∃ Ps0,Ps0=[A]:=⟨_,rfl⟩
  obtain⟨X0,hX0⟩ : ∃ X0,X0=dblN M A:=⟨_,rfl⟩
  rw[hM]at hQ
  refine qn hE hI hm (fun z:Nat × List AP × AP × Nat=>(mkT 35 [(1,.int .i64 n),(2,.int .i64 m),(3,.ptr 0 (.l 0)),(6,.val (.slice none 0 0)),(7,.lit .i64 0),(8,.sl 256 24 (.l 0) (.s z.1) (.s z.2.2.2)),(23,.int .i64 n),(24,.int .i64 z.1)],[(256,.sab (.pt z.2.1)),(0,.ab (.pt z.2.2.1))])) (fun z=>z.1<=N/\z.2.1=powL M A z.1/\z.2.2.1=dblN (z.1*M) A/\z.1<=z.2.2.2) (fun z=>N-z.1) 1 ⟨(1,Ps0,X0,cap),[some 192],⟨by show 1<=N;omega,by show Ps0=powL M A 1;rw[hPs0];simp[powL,dblN],by show X0=dblN (1*M) A;rw[Nat.one_mul];exact hX0,hcap1⟩,by decide,?_⟩ fun z hz=>⟨1000,?_⟩
  ·conv=>cbv
   subst hΩ
   exact⟨rfl,by rw[hPs0];rfl,by rw[hX0,<- hM];rfl⟩
  obtain⟨i,Ps,X,c⟩:=z
  obtain⟨hi,hPs,hX,hc⟩:i<=N/\Ps=powL M A i/\X=dblN (i*M) A/\i<=c:=hz
  have hl:Ps.length=i:=by rw[hPs,qnI]
  conv=>cbv
  constructor
  ·intro hc2
   have hlt:(i:Int)<n:=by subst hΩ;exact of_decide_eq_true hc2
   conv=>cbv
   constructor
   ·exact fun _=>(show(i+1)*192<=140737488355328 by omega)
   constructor
   ·exact fun _=>⟨hl.symm,rfl,by decide⟩
   intro cap2 hcap2
   have hcap3:i+1<=cap2:=hcap2
   conv=>cbv
   constructor
   ·exact fun(_:Unit) (_:Unit)=>⟨m0,m1⟩
   intro _ _
   conv=>cbv
   obtain⟨Ps2,hPs2⟩ : ∃ Ps2,Ps2=Ps++[X]:=⟨_,rfl⟩
   obtain⟨X2,hX2⟩ : ∃ X2,X2=dblN M X:=⟨_,rfl⟩
   refine⟨(i+1,Ps2,X2,cap2),[some 296],⟨by show i+1<=N;omega,by show Ps2=powL M A (i+1);rw[qtn,hPs2,hPs,hX],by show X2=dblN ((i+1)*M) A;rw[hX2,hX,qnJ,Nat.succ_mul],hcap3⟩,by show N-(i+1)<N-i;omega,by decide,?_⟩
   ·conv=>cbv
    subst hΩ
    refine⟨rfl,?_,by rw[hPs2];rfl,by rw[hX2,<- hM];rfl⟩
    show binL .add .i64 (i:Int) 1=((i+1:Nat):Int)
    rw[qF (by omega) (by omega)];omega
  ·intro hc2
   have hge : ¬ (i:Int)<n:=by subst hΩ;exact of_decide_eq_false hc2
   have hiN:i=N:=by omega
   rw[hiN]at hPs
   conv=>cbv
   refine hQ (Ps,c) _ _ _ ⟨hPs,by show Ps.length<=c;omega⟩ ?_
   subst hΩ
   exact⟨⟨⟨rfl,rfl,hl.symm,rfl⟩,⟨rfl,rfl⟩,trivial⟩,rfl,rfl⟩
end Go.Sx.Tryz
end
section
namespace Go.Sx.Tryz
open Go.Sx
def tw (m:Nat):Nat->Nat->Nat
 | 0,_=>0
 | k+1,i=>tw m k i+bitN i k*2^(k*m)
theorem qtp {i k j:Nat} (c:Nat) (h:j<k):bitN (i+c*2^k) j=bitN i j:=by
 unfold bitN
 obtain⟨d,rfl⟩ : ∃ d,k=j+(d+1):=⟨k-j-1,by omega⟩
 have e:i+c*2^(j+(d+1))=i+2^j*(c*2^d*2):=by
  rw[Nat.pow_add,Nat.pow_succ];congr 1;ac_rfl
 rw[e,Nat.add_mul_div_left _ _ (Nat.two_pow_pos j),Nat.add_mul_mod_self_right]
theorem qi3 (m:Nat) {i K:Nat} (c:Nat) : ∀ k,k<=K->tw m k (i+c*2^K)=tw m k i
 | 0,_=>rfl
 | k+1,h=>by
   show tw m k (i+c*2^K)+bitN (i+c*2^K) k*2^(k*m)=tw m k i+bitN i k*2^(k*m)
   rw[qi3 m c k (by omega),qtp c (show k<K by omega)]
theorem qnK {c k:Nat} (b:Nat) (h:c<2^k) (hb:b<2):bitN (c+b*2^k) k=b:=by
 unfold bitN
 rw[Nat.add_mul_div_right _ _ (Nat.two_pow_pos k),Nat.div_eq_of_lt h,Nat.zero_add,Nat.mod_eq_of_lt hb]
def tabN (m:Nat) (B:AP):Nat->List AP
 | 0=>[pid]
 | k+1=>tabN m B k++(tabN m B k).map fun x=>padd x (dblN (k*m) B)
theorem qb4 (m:Nat) (B:AP) : ∀ k,(tabN m B k).length=2^k
 | 0=>rfl
 | k+1=>by
   show(tabN m B k++(tabN m B k).map fun x=>padd x (dblN (k*m) B)).length=2^(k+1)
   rw[List.length_append,List.length_map,qb4 m B k,Nat.pow_succ];omega
theorem qnL {B:AP} (hB:B.on) : ∀ n,dblN n B=nsm (2^n) B
 | 0=>by
   show B=padd (nsm 0 B) B
   exact(ql2 B).symm
 | n+1=>by
   show padd (dblN n B) (dblN n B)=nsm (2^(n+1)) B
   rw[qnL hB n,Nat.pow_succ,Nat.mul_comm,qiD hB]
theorem qi4 (m:Nat) {B:AP} (hB:B.on) (d:AP) : ∀ k i,i<2^k->(tabN m B k).getD i d=nsm (tw m k i) B
 | 0,i,h=>by
   have:i=0:=by simpa using h
   subst this;rfl
 | k+1,i,h=>by
   show(tabN m B k++(tabN m B k).map fun x=>padd x (dblN (k*m) B)).getD i d=nsm (tw m k i+bitN i k*2^(k*m)) B
   by_cases hi:i<2^k
   · have hb:bitN i k=0:=by unfold bitN;rw[Nat.div_eq_of_lt hi]
     rw[hb,Nat.zero_mul,Nat.add_zero,<- qi4 m hB d k i hi,List.getD_eq_getElem?_getD,List.getD_eq_getElem?_getD,List.getElem?_append_left (by rw[qb4];exact hi)]
   · obtain⟨c,rfl⟩ : ∃ c,i=c+1*2^k:=⟨i-2^k,by omega⟩
     have hc:c<2^k:=by rw[Nat.pow_succ]at h;omega
     have hb:bitN (c+1*2^k) k=1:=qnK 1 hc (by decide)
     rw[hb,qi3 m 1 k (Nat.le_refl k),Nat.one_mul,qfU hB,<- qi4 m hB d k c hc,Nat.one_mul,<- qnL hB,List.getD_eq_getElem?_getD,List.getD_eq_getElem?_getD,List.getElem?_append_right (by rw[qb4];omega),List.getElem?_map,qb4,Nat.add_sub_cancel]
     rw[List.getElem?_eq_getElem (by rw[qb4];exact hc)]
     rfl
def rowS (V m i:Nat):Nat->Nat
 | 0=>0
 | w+1=>rowS V m i w+2^(w*m)*(V / 2^(i+w*m) % 2^(m-i))
theorem qnM (V m:Nat) : ∀ w,rowS V m m w=0
 | 0=>rfl
 | w+1=>by
   show rowS V m m w+2^(w*m)*(V / 2^(m+w*m) % 2^(m-m))=0
   rw[qnM V m w,Nat.sub_self,Nat.pow_zero,Nat.mod_one,Nat.mul_zero]
theorem qnN (V:Nat) {m i:Nat} (h:i<m) : ∀ w,rowS V m i w=2*rowS V m (i+1) w+tw m w (colV V m i w)
 | 0=>rfl
 | w+1=>by
   have hc:=qes V m i w
   have hb:=qcW V (i+w*m)
   have e:m-i=(m-(i+1))+1:=by omega
   show rowS V m i w+2^(w*m)*(V / 2^(i+w*m) % 2^(m-i))=2*(rowS V m (i+1) w+2^(w*m)*(V / 2^(i+1+w*m) % 2^(m-(i+1))))+(tw m w (colV V m i w+bitN V (i+w*m)*2^w)+bitN (colV V m i w+bitN V (i+w*m)*2^w) w*2^(w*m))
   rw[qi3 m _ w (Nat.le_refl w),qnK _ hc hb,qnN V h w,e,qrt,show i+(w*m+1)=i+1+w*m by omega,Nat.mul_add,Nat.mul_add,Nat.mul_comm (bitN V (i+w*m))]
   have e2:2^(w*m)*(2*(V / 2^(i+1+w*m) % 2^(m-(i+1))))=2*(2^(w*m)*(V / 2^(i+1+w*m) % 2^(m-(i+1)))):=by ac_rfl
   rw[e2]
   omega
theorem qnO (V m:Nat) : ∀ w,rowS V m 0 w=V % 2^(w*m)
 | 0=>by rw[Nat.zero_mul,Nat.pow_zero,Nat.mod_one];rfl
 | w+1=>by
   show rowS V m 0 w+2^(w*m)*(V / 2^(0+w*m) % 2^(m-0))=V % 2^((w+1)*m)
   rw[qnO V m w,Nat.zero_add,Nat.sub_zero,Nat.succ_mul,Nat.pow_add,Nat.mod_mul]
theorem qtq {B:AP} (hB:B.on) (V:Nat) {m i w:Nat} (h:i<m) {X:AP} (hX:X=nsm (rowS V m (i+1) w) B) (d:AP) :
  padd (padd X X) ((tabN m B w).getD (colV V m i w) d)=nsm (rowS V m i w) B:=by
 rw[qi4 m hB d w _ (qes V m i w),hX,<- qiD hB,<- qfU hB,qnN V h]
end Go.Sx.Tryz
end
section
set_option maxHeartbeats 4000000
namespace Go.Sx.Tryz
open Go.Proofs
set_option maxRecDepth 40000
theorem qtr (x:Fp):binL .mul .u8 (binL .and .u8 ((qap x).getD 0 0) 1) 128=if x.val % 2=1 then 128 else 0:=by
 rw[qqJ,qqK _ (Nat.mod_lt _ (by decide))]
 have h2:x.val % 256 % 2=x.val % 2:=Nat.mod_mod_of_dvd _ (by decide)
 rw[h2]
 rcases Nat.mod_two_eq_zero_or_one x.val with h|h
 ·rw[h,if_neg (by decide)];rfl
 ·rw[h,if_pos rfl];rfl
def qgK (Ω:Om):qe:=fun args=>match args with
 | [.ab (.pt P)]=>⟨True,List Int × Nat,fun z=>z.1=codB P/\z.1.length<=z.2,fun z =>.fr .u8 z.1 z.2⟩
 | _=>PR.none
theorem qts:Ctr Tryz.prog T glob 59 (qgK Om.real):=by
 refine qq T_ok qf qg (fun Ω=>[(105,qfR Ω),(98,qfL Ω)]) [] (fun Ω=>[]) [] (qc qrI (qc qrB qh)) qi qk ql Tryz.func59 (by rfl) (by kernel_rfl) Tryz.call59 ?_ ?_
 ·intro args;unfold qgK;split
  ·exact qav ⟨trivial,trivial⟩ fun _=>qaM _
  ·exact PR.good_none
 ·intro P Ω hΩ hE hI hm args pr hs hp Q hQ
  unfold qgK at hs
  split at hs<;>subst hs<;>try (exact hp.elim)
  rename_i P
  refine⟨1000,?_⟩
  conv=>cbv
  constructor;(first|exact fun(_:Unit)=>trivial|exact fun(_:Unit) (_:Unit)=>(by decide));intro _ _;conv=>cbv
  constructor
  ·exact fun _=>trivial
  intro z hz
  obtain⟨yl,yc⟩:=z
  have hz:yl=qap P.y/\yl.length<=yc:=by subst hΩ;exact hz
  conv=>cbv
  constructor
  ·exact fun _=>trivial
  intro v hv
  obtain⟨xl,xc⟩:=v
  have hv:xl=qap P.x/\xl.length<=xc:=by subst hΩ;exact hv
  have hxl:xl.length=56:=by rw[hv.1,qdZ]
  have hyl:yl.length=56:=by rw[hz.1,qdZ]
  conv=>cbv
  constructor
  ·exact fun _=>(by subst hΩ;show(0:Nat)<xl.length;omega)
  constructor
  ·exact fun _=>(by show 0+1<=xl.length;omega)
  constructor
  ·exact fun _=>(by subst hΩ;show(yl.length+1)*1<=140737488355328;omega)
  constructor
  ·exact fun _=>(by subst hΩ;exact⟨(show 0+yl.length*1<=yl.length by omega),(show 0+1*1<=1 by decide)⟩)
  intro cap hcap
  have hcap2:yl.length+1<=cap:=by subst hΩ;exact hcap
  conv=>cbv
  refine hQ (codB P,cap) _ _ _ ⟨rfl,by rw[qaR];omega⟩ ?_
  subst hΩ
  have e1:yl++[binL .mul .u8 (binL .and .u8 (xl.getD 0 0) 1) 128]=codB P:=by
   unfold codB
   have h1:yl=qap P.y:=hz.1
   have h2:xl=qap P.x:=hv.1
   rw[h1,h2,qtr]
  refine⟨rfl,rfl,?_,?_⟩
  ·show 0+(yl.length+1)<=List.length ((yl.drop 0).take yl.length++_)
   rw[List.drop_zero,List.take_length,List.length_append]
   exact(show 0+(yl.length+1)<=yl.length+1 by omega)
  ·show codB P=(List.drop 0 ((yl.drop 0).take yl.length++[binL .mul .u8 (binL .and .u8 (xl.getD 0 0) 1) 128])).take (yl.length+1)
   rw[List.drop_zero,List.drop_zero,List.take_length,List.take_of_length_le (by rw[List.length_append];exact Nat.le_refl _)]
   exact e1.symm
end Go.Sx.Tryz
end
section
set_option maxHeartbeats 4000000
namespace Go.Sx.Tryz
open Go.Proofs
set_option maxRecDepth 40000
@[irreducible] def tabB:List AP:=tabN 92 baseP 5
theorem qtt:tabB.length=32:=by unfold tabB;rw[qb4]
theorem qtu (V:Nat) {i:Nat} (h:i<92) {X:AP} (hX:X=nsm (rowS V 92 (i+1) 5) baseP) :
  padd (padd X X) (tabB.getD (colV V 92 i 5) ⟨0,1⟩)=nsm (rowS V 92 i 5) baseP:=by
 unfold tabB
 exact qtq qfV V h hX _
def qgL (Ω:Om):qe:=fun args=>match args with
 | [.rop (.agg [.roa (.pt Ts),.int .i64 w,.int .i64 n]) (.l 0),.roi .u8 bs]=>⟨∀ _:Unit,(Ts=tabB/\w=5/\n=57)/\bs.length=57/\Byt bs,Unit,fun _=>True,fun _ =>.tup [.ab (.pt (Ω.hide _ fun _=>nsm (nV bs) baseP)),.int .i64 0]⟩
 | _=>PR.none
noncomputable def qtv:List (FuncId × Func):=[(237,Tryz.f237),(144,Tryz.f144),(222,Tryz.f222)]
theorem qtw:Ctr Tryz.prog T glob 161 (qgL Om.real):=by
 refine qq T_ok qf qg (fun Ω=>[(120,qcZ Ω),(236,qgI Ω),(146,qfX Ω),(60,qea Ω),(145,qeb Ω)]) qtv (fun Ω=>[]) [] (qc qiB (qc qtl (qc qrU (qc qmA (qc qmB qh))))) (qE Tryz.call237 Tryz.func237 (by kernel_rfl) (qE Tryz.call144 Tryz.func144 (by kernel_rfl) (qE Tryz.call222 Tryz.func222 (by kernel_rfl) qi))) qk ql Tryz.func161 (by rfl) (by kernel_rfl) Tryz.call161 ?_ ?_
 ·intro args;unfold qgL;split
  ·exact qo (by repeat' constructor) (fun _ _=>rfl) (by repeat' constructor)
  ·exact PR.good_none
 ·intro P Ω hΩ hE hI hm args pr hs hp Q hQ
  unfold qgL at hs
  split at hs<;>subst hs<;>try (exact hp.elim)
  rename_i Ts w n bs
  obtain⟨⟨hT,hw,hn⟩,hl,hb⟩:=hp ()
  refine⟨1000,?_⟩
  conv=>cbv
  constructor
  ·intro h
   have h':False:=by (subst hΩ;have h2:(!decide (((bs.length:Nat):Int)=n))=true:=h;rw[hl,hn]at h2;exact absurd h2 (by decide));first|done|(subst hΩ;exact Bool.noConfusion (show false=true from h))
   contradiction
  intro _
  conv=>cbv
  constructor
  ·exact fun _ _=>⟨⟨hb,by omega⟩,by omega⟩
  intro z hz
  obtain⟨zl,zc⟩:=z
  have hz:zl=qa3 (nV bs) 5 92 92/\zl.length<=zc:=by
   have h1:zl=qa3 (nV bs) w.toNat ((8*bs.length+w.toNat-1) / w.toNat) ((8*bs.length+w.toNat-1) / w.toNat)/\zl.length<=zc:=hz
   rw[hw,hl]at h1
   exact h1
  conv=>cbv
  constructor
  ·intro h
   have h':False:=by (subst hΩ;exact absurd h (by decide));first|done|(subst hΩ;exact Bool.noConfusion (show false=true from h))
   contradiction
  intro _
  conv=>cbv
  constructor;(first|exact fun(_:Unit)=>trivial|exact fun(_:Unit) (_:Unit)=>(by decide));intro _ _;conv=>cbv
  obtain⟨j0,hj0⟩ : ∃ j0,Ω.bin .sub .i64 (Ω.ofN (Ω.len zl)) 1=j0:=⟨_,rfl⟩
  have hzl:zl.length=92:=by rw[hz.1,qi2]
  have ej0:j0=91:=by
   rw[<- hj0,hΩ]
   show binL .sub .i64 ((zl.length:Nat):Int) 1=_
   rw[hzl]
   rfl
  obtain⟨X0,hX0⟩ : ∃ X0,X0=pid:=⟨_,rfl⟩
  conv at hj0=>lhs;cbv
  refine qn hE hI hm (fun z:Nat × Int × AP=>(mkT 19 [(0,.yld 288),(1,.ptr 256 (.l 0)),(3,.int .i64 z.2.1)],[(256,.sl 152 1 (.l 0) (.s (Ω.len zl)) (.s zc)),(224,.ab (.pt z.2.2)),(152,.seq .i64 zl),(16,.lit .i64 0),(8,Z32),(0,.rop (.agg [.roa (.pt Ts),.int .i64 w,.int .i64 n]) (.l 0))])) (fun z=>z.1<=92/\z.2.1=(z.1:Int)-1/\z.2.2=nsm (rowS (nV bs) 92 z.1 5) baseP) (fun z=>z.1) 0 ⟨(92,j0,X0),[],⟨Nat.le_refl _,ej0,?_⟩,Nat.zero_le _,?_⟩ fun z hz=>⟨1000,?_⟩
  ·show X0=nsm (rowS (nV bs) 92 92 5) baseP
   rw[qnM,hX0]
   rfl
  ·conv=>cbv
   rw[hX0]
   subst hΩ
   exact⟨hj0,rfl,trivial⟩
  obtain⟨k,j,X⟩:=z
  obtain⟨hk,hj,hX⟩:k<=92/\j=(k:Int)-1/\X=nsm (rowS (nV bs) 92 k 5) baseP:=hz
  conv=>cbv
  constructor
  ·intro hc
   have h1:0<=j:=by subst hΩ;exact of_decide_eq_true hc
   obtain⟨i,rfl⟩ : ∃ i:Nat,j=i:=⟨j.toNat,by omega⟩
   obtain⟨d,hd⟩ : ∃ d,Ω.at' zl (Ω.toN (i:Int))=d:=⟨_,rfl⟩
   have ed:d=((colV (nV bs) 92 i 5:Nat):Int):=by
    rw[<- hd,hΩ]
    show zl.getD i 0=_
    rw[hz.1]
    unfold qa3
    rw[List.getD_eq_getElem?_getD,List.getElem?_map,List.getElem?_range (by omega)]
    rfl
   have hd32:=qes (nV bs) 92 i 5
   conv at hd=>lhs;cbv
   conv=>cbv
   constructor
   ·exact fun _=>⟨h1,by subst hΩ;show(i:Int)<((zl.length:Nat):Int);omega⟩
   constructor
   ·exact fun _=>by subst hΩ;show i+1<=zl.length;omega
   rw[hd]
   have hT32:Ts.length=32:=by rw[hT,qtt]
   constructor
   ·exact fun _ _=>⟨⟨by omega,(show d<((Ts.length:Nat):Int)by omega)⟩,(show Ts.length<1000 by omega)⟩
   intro _ _
   conv=>cbv
   constructor
   ·intro h
    have h':False:=by (subst hΩ;exact absurd h (by decide));first|done|(subst hΩ;exact Bool.noConfusion (show false=true from h))
    contradiction
   intro _
   conv=>cbv
   constructor;(first|exact fun(_:Unit)=>trivial|exact fun(_:Unit) (_:Unit)=>(by decide));intro _ _;conv=>cbv
   constructor;(first|exact fun(_:Unit)=>trivial|exact fun(_:Unit) (_:Unit)=>(by decide));intro _ _;conv=>cbv
   obtain⟨X2,hX2⟩ : ∃ X2,X2=padd (padd X X) (Ts.getD d.toNat ⟨0,1⟩):=⟨_,rfl⟩
   have eX2:X2=nsm (rowS (nV bs) 92 i 5) baseP:=by
    rw[hX2,hT,ed]
    exact qtu (nV bs) (by omega) (by rw[hX,show k=i+1 by omega])
   obtain⟨j2,hj2⟩ : ∃ j2:Int,(i:Int)-1=j2:=⟨_,rfl⟩
   refine⟨(i,j2,X2),[],⟨by show i<=92;omega,hj2.symm,eX2⟩,by show i<k;omega,Nat.zero_le _,?_⟩
   conv=>cbv
   subst hΩ
   refine⟨?_,by rw[hX2];rfl,trivial⟩
   show binL .sub .i64 (i:Int) 1=j2
   rw[qad (by omega) (by omega),hj2]
  ·intro hc
   have h1 : ¬ 0<=j:=by subst hΩ;exact of_decide_eq_false hc
   have hk0:k=0:=by omega
   rw[hk0,qnO]at hX
   have hV:nV bs % 2^(5*92)=nV bs:=Nat.mod_eq_of_lt (by
    have:=qcl hb
    rw[hl]at this
    exact Nat.lt_of_lt_of_le this (by decide +kernel))
   rw[hV]at hX
   conv=>cbv
   refine hQ () _ _ _ trivial ?_
   subst hΩ
   refine⟨⟨?_,⟨rfl,rfl⟩,trivial⟩,rfl,rfl⟩
   show Pay.pt X=Pay.pt (nsm (nV bs) baseP)
   rw[hX]
end Go.Sx.Tryz
end
section
set_option maxHeartbeats 4000000
namespace Go.Sx.Tryz
open Go.Proofs
set_option maxRecDepth 40000
set_option pp.deepTerms true
set_option pp.maxSteps 1000000
def qgM (Ω:Om):qe:=fun args=>match args with
 | [.roi .u8 bs]=>⟨∀ _:Unit,bs.length=57/\Byt bs,Unit,fun _=>True,fun _ =>.tup [.ab (.pt (Ω.hide _ fun _=>nsm (nV bs) baseP)),.int .i64 0]⟩
 | _=>PR.none
noncomputable def qtx:List (FuncId × Func):=[(160,Tryz.f160),(234,Tryz.f234),(235,Tryz.f235)]
theorem qty:Ctr Tryz.prog T glob 68 (qgM Om.real):=by
 refine qq T_ok qf qg (fun Ω=>[(57,qgF Ω),(120,qcZ Ω),(233,qgJ Ω),(60,qea Ω),(161,qgL Ω)]) qtx (fun Ω=>[]) [] (qc qtf (qc qiB (qc qto (qc qmA (qc qtw qh))))) (qE Tryz.call160 Tryz.func160 (by kernel_rfl) (qE Tryz.call234 Tryz.func234 (by kernel_rfl) (qE Tryz.call235 Tryz.func235 (by kernel_rfl) qi))) qk ql Tryz.func68 (by rfl) (by kernel_rfl) Tryz.call68 ?_ ?_
 ·intro args;unfold qgM;split
  ·exact qo (by repeat' constructor) (fun _ _=>rfl) (by repeat' constructor)
  ·exact PR.good_none
 ·intro P Ω hΩ hE hI hm args pr hs hp Q hQ
  unfold qgM at hs
  split at hs<;>subst hs<;>try (exact hp.elim)
  rename_i bs
  obtain⟨hl,hb⟩:=hp ()
  refine⟨1000,?_⟩
  conv=>cbv
  constructor;(first|exact fun(_:Unit)=>trivial|exact fun(_:Unit) (_:Unit)=>(by decide));intro _ _;conv=>cbv
  constructor
  ·intro h
   have h':False:=by (subst hΩ;have h2:=of_decide_eq_true h;change ((bs.length:Nat):Int)<1 at h2;omega);first|done|(subst hΩ;exact Bool.noConfusion (show false=true from h))
   contradiction
  intro _
  conv=>cbv
  constructor
  ·intro h
   have h':False:=by (subst hΩ;have h2:=of_decide_eq_true h;change ((bs.length:Nat):Int) > 64 at h2;omega);first|done|(subst hΩ;exact Bool.noConfusion (show false=true from h))
   contradiction
  intro _
  conv=>cbv
  have eK:Ω.bin .quo .i64 (Ω.bin .sub .i64 (Ω.bin .add .i64 (Ω.bin .mul .i64 8 (Ω.ofN (Ω.len bs))) 5) 1) 5=92:=by
   rw[hΩ]
   show binL .quo .i64 (binL .sub .i64 (binL .add .i64 (binL .mul .i64 8 ((bs.length:Nat):Int)) 5) 1) 5=92
   rw[hl]
   rfl
  conv at eK=>lhs;cbv
  rw[eK]
  constructor
  ·exact fun _ _=>⟨⟨by decide,by decide⟩,by decide,by decide⟩
  intro z hz
  obtain⟨rl,rc⟩:=z
  have hz:rl=powL 92 baseP 5/\rl.length<=rc:=by subst hΩ;exact hz
  have hrl:rl.length=5:=by rw[hz.1,qnI]
  conv=>cbv
  constructor
  ·intro h
   have h':False:=by (subst hΩ;exact absurd h (by decide));first|done|(subst hΩ;exact Bool.noConfusion (show false=true from h))
   contradiction
  intro _
  conv=>cbv
  constructor;(first|exact fun(_:Unit)=>trivial|exact fun(_:Unit) (_:Unit)=>(by decide));intro _ _;conv=>cbv
  refine qau hE hI hm (n:=1000) ?_
  conv=>cbv
  constructor
  rotate_left
  ·intro h
   have h':False:=by (subst hΩ;have h2:=of_decide_eq_false h;change ¬ (0:Int)<((rl.length:Nat):Int)at h2;omega);first|done|(subst hΩ;exact Bool.noConfusion (show true=false from h))
   contradiction
  intro _
  conv=>cbv
  constructor
  ·exact fun _=>(by subst hΩ;show 0<rl.length;omega)
  constructor
  ·exact fun _=>⟨rfl,(show 0 / 24<rl.length by omega)⟩
  intro q hq
  conv=>cbv
  constructor
  ·intro h
   have h':False:=by (exact absurd (hq h) (by decide));first|done|(subst hΩ;exact Bool.noConfusion (show false=true from h))
   contradiction
  intro _
  conv=>cbv
  constructor
  ·exact fun _=>(by decide:(0+1)*192<=140737488355328)
  constructor
  ·exact fun _=>⟨rfl,rfl,by decide⟩
  intro cap hcap
  have hcap1:1<=cap:=by have h:0+1<=cap:=hcap;omega
  conv=>cbv
  refine qau hE hI hm (n:=1000) ?_
  conv=>cbv
  constructor;(first|exact fun(_:Unit)=>trivial|exact fun(_:Unit) (_:Unit)=>(by decide));intro _ _;conv=>cbv
  constructor
  ·exact fun _=>(by show(1+1)*192<=140737488355328;decide)
  constructor
  ·exact fun _=>⟨by subst hΩ;rfl,rfl,by decide⟩
  intro cap2 hcap2
  have hcap3:2<=cap2:=by have h:1+1<=cap2:=hcap2;omega
  conv=>cbv
  refine qau hE hI hm (n:=1000) ?_
  conv=>cbv
  have hr0 : ∀ i,i<5->rl.getD i ⟨0,1⟩=dblN (i*92) baseP:=by
   intro i hi
   rw[hz.1]
   unfold powL
   rw[List.getD_eq_getElem?_getD,List.getElem?_map,List.getElem?_range hi]
   rfl
  obtain⟨L1,hL1⟩ : ∃ L1,L1=tabN 92 baseP 1:=⟨_,rfl⟩
  have eL1:([]++[pid])++[padd pid (rl.getD 0 ⟨0,1⟩)]=L1:=by
   rw[hL1,hr0 0 (by decide)]
   rfl
  refine qn hE hI hm (fun z:Nat × List AP × Nat × Nat=>(mkT 67 [(1,.lit .i64 5),(2,.int .i64 (Ω.ofN (Ω.len bs))),(10,.ptr 376 (.l 0)),(11,.fn 234 [] [.ptr 376 (.l 0)]),(47,.sl 296 24 (.l 0) (.s (Ω.hide Nat fun _=>rl.length)) (.s rc)),(48,.int .i64 (Ω.ofN (Ω.hide Nat fun _=>rl.length))),(49,.int .i64 z.1)],[(816,.sab (.pt z.2.1)),(376,.sl 816 24 (.l 0) (.s z.2.2.1) (.s z.2.2.2)),(296,.sab (.pt rl)),(0,Z32)])) (fun z=>(1<=z.1/\z.1<=4)/\z.2.1=tabN 92 baseP z.1/\z.2.2.1=z.2.1.length/\z.2.2.1<=z.2.2.2) (fun z=>5-z.1) 1 ⟨(1,L1,2,cap2),[some 704],⟨⟨Nat.le_refl _,(show 1<=4 by decide)⟩,hL1,by show 2=L1.length;rw[hL1,qb4],hcap3⟩,by decide,?_⟩ fun z hz=>⟨1000,?_⟩
  ·conv=>cbv
   subst hΩ
   refine⟨rfl,?_,?_⟩
   ·show PayL.pt (([]++[pid])++[padd pid (rl.getD 0 ⟨0,1⟩)])=PayL.pt L1
    rw[eL1]
   trivial
  obtain⟨k,Ls,n,lc⟩:=z
  obtain⟨⟨hk1,hk4⟩,hLs,hn,hlc⟩:(1<=k/\k<=4)/\Ls=tabN 92 baseP k/\n=Ls.length/\n<=lc:=hz
  conv=>cbv
  constructor
  rotate_left
  ·intro h
   have h':False:=by (subst hΩ;have h2:=of_decide_eq_false h;change ¬ ((k:Nat):Int)<((rl.length:Nat):Int)at h2;omega);first|done|(subst hΩ;exact Bool.noConfusion (show true=false from h))
   contradiction
  intro _
  conv=>cbv
  obtain⟨ix,hix⟩ : ∃ ix,Ω.nmul (Ω.toN (Int.ofNat k)) 24 / 24=ix:=⟨_,rfl⟩
  have eix:ix=k:=by
   rw[<- hix,hΩ]
   show k*24 / 24=k
   omega
  conv at hix=>lhs;cbv
  rw[hix]
  have hln:Ls.length=2^k:=by rw[hLs,qb4]
  have hn0:0<n:=by rw[hn,hln];exact Nat.two_pow_pos k
  have hn16:n<=16:=by
   rw[hn,hln]
   have:k=1\/k=2\/k=3\/k=4:=by omega
   rcases this with rfl|rfl|rfl|rfl<;>decide
  constructor
  ·exact fun _=>(by subst hΩ;show 0<=(k:Int)/\(k:Int)<((rl.length:Nat):Int);omega)
  constructor
  ·exact fun _=>⟨(by subst hΩ;show k*24 % 24=0;omega),(by subst hΩ;show k*24 / 24<rl.length;omega)⟩
  intro q hq
  conv=>cbv
  constructor
  ·intro h
   have h':False:=by (have h2:lc=0:=hq h;omega);first|done|(subst hΩ;exact Bool.noConfusion (show false=true from h))
   contradiction
  intro _
  conv=>cbv
  constructor
  ·exact fun _=>(by show(0+n)*192<=140737488355328;omega)
  constructor
  ·exact fun _=>⟨rfl,hn,hn0⟩
  intro c0 hc0
  have hc1:n<=c0:=by have h:0+n<=c0:=hc0;omega
  conv=>cbv
  obtain⟨Qk,hQk⟩ : ∃ Qk,Qk=rl.getD ix ⟨0,1⟩:=⟨_,rfl⟩
  have eQk:Qk=dblN (k*92) baseP:=by rw[hQk,eix];exact hr0 k (by omega)
  obtain⟨O0,hO0⟩ : ∃ O0,O0=Ls:=⟨_,rfl⟩
  refine qn hE hI hm (fun z:Nat × List AP × Nat × Nat=>(mkT 23 [(2,.ptr 896 (.l 0)),(4,.sl 1016 24 (.l 0) (.s z.2.2.1) (.s z.2.2.2)),(9,.sl 816 24 (.l 0) (.s n) (.s lc)),(10,.int .i64 (Ω.ofN n)),(11,.int .i64 z.1)],[(1016,.sab (.pt z.2.1)),(896,.ab (.pt Qk)),(816,.sab (.pt Ls)),(376,.sl 816 24 (.l 0) (.s n) (.s lc)),(296,.sab (.pt rl)),(0,Z32)])) (fun z=>z.1<=n/\z.2.1=Ls++(Ls.take z.1).map (fun x=>padd x Qk)/\z.2.2.1=z.2.1.length/\z.2.2.1<=z.2.2.2) (fun z=>n-z.1) 1 ⟨(0,O0,n,c0),[some 976],⟨Nat.zero_le _,by show O0=Ls++(Ls.take 0).map _;rw[hO0];simp,by show n=O0.length;rw[hO0];exact hn,hc1⟩,by decide,?_⟩ fun z hz=>⟨1000,?_⟩
  ·conv=>cbv
   subst hΩ
   exact⟨rfl,by rw[hO0];rfl,by rw[hQk];rfl,trivial⟩
  obtain⟨j,Os,m,oc⟩:=z
  obtain⟨hj,hOs,hm2,hoc⟩:j<=n/\Os=Ls++(Ls.take j).map (fun x=>padd x Qk)/\m=Os.length/\m<=oc:=hz
  have hml:m=n+j:=by
   rw[hm2,hOs,List.length_append,List.length_map,List.length_take,<- hn]
   omega
  conv=>cbv
  constructor
  ·intro hc
   have hlt:j<n:=by
    subst hΩ
    have h2:((j:Nat):Int)<((n:Nat):Int):=of_decide_eq_true hc
    omega
   obtain⟨jx,hjx⟩ : ∃ jx,Ω.nmul (Ω.toN (Int.ofNat j)) 24 / 24=jx:=⟨_,rfl⟩
   have ejx:jx=j:=by
    rw[<- hjx,hΩ]
    show j*24 / 24=j
    omega
   conv at hjx=>lhs;cbv
   conv=>cbv
   rw[hjx]
   constructor
   ·exact fun _=>(by subst hΩ;show 0<=(j:Int)/\(j:Int)<((n:Nat):Int);omega)
   constructor
   ·exact fun _=>⟨(by subst hΩ;show j*24 % 24=0;omega),(by subst hΩ;show j*24 / 24<Ls.length;omega)⟩
   constructor;(first|exact fun(_:Unit)=>trivial|exact fun(_:Unit) (_:Unit)=>(by decide));intro _ _;conv=>cbv
   constructor
   ·exact fun _=>(by show(m+1)*192<=140737488355328;omega)
   constructor
   ·exact fun _=>⟨hm2,rfl,by decide⟩
   intro c2 hc2
   have hc3:m+1<=c2:=hc2
   obtain⟨O2,hO2⟩ : ∃ O2,O2=Os++[padd (Ls.getD jx ⟨0,1⟩) Qk]:=⟨_,rfl⟩
   have eO2:O2=Ls++(Ls.take (j+1)).map (fun x=>padd x Qk):=by
    rw[hO2,hOs,List.take_succ_eq_append_getElem (show j<Ls.length by omega),List.map_append,List.append_assoc,List.getD_eq_getElem?_getD,show Ls[jx]?=Ls[j]? from congrArg (fun q=>Ls[q]?) ejx,List.getElem?_eq_getElem (show j<Ls.length by omega)]
    rfl
   obtain⟨j2,hj2⟩ : ∃ j2,Ω.bin .add .i64 (Int.ofNat j) 1=j2:=⟨_,rfl⟩
   have ej2:j2=((j+1:Nat):Int):=by
    rw[<- hj2,hΩ]
    show binL .add .i64 (j:Int) 1=_
    rw[qF (by omega) (by omega)];omega
   conv at hj2=>lhs;cbv
   conv=>cbv
   rw[hj2]
   refine⟨(j+1,O2,m+1,c2),[some 1104],⟨by show j+1<=n;omega,eO2,by show m+1=O2.length;rw[hO2,List.length_append,hm2];rfl,hc3⟩,by show n-(j+1)<n-j;omega,by decide,?_⟩
   conv=>cbv
   subst hΩ
   refine⟨?_,?_,?_⟩
   ·rfl
   ·exact ej2
   ·rw[hO2];exact⟨rfl,trivial⟩
  ·intro hc
   have hge:j=n:=by
    subst hΩ
    have h2 : ¬ ((j:Nat):Int)<((n:Nat):Int):=of_decide_eq_false hc
    omega
   have eOs:Os=tabN 92 baseP (k+1):=by
    rw[hOs,hge,hn,List.take_length,hLs,eQk]
    rfl
   conv=>cbv
   constructor
   ·intro h32
    have hm32:m=32:=by
     subst hΩ
     have h2:=eq_of_beq h32
     change ((m:Nat):Int)=32 at h2
     omega
    have hk:k=4:=by
     have:k=1\/k=2\/k=3\/k=4:=by omega
     rcases this with rfl|rfl|rfl|rfl
     ·exfalso;rw[show(2:Nat)^1=2 by decide]at hln;omega
     ·exfalso;rw[show(2:Nat)^2=4 by decide]at hln;omega
     ·exfalso;rw[show(2:Nat)^3=8 by decide]at hln;omega
     ·rfl
    have eT:Os=tabB:=by
     unfold tabB
     rw[eOs,hk]
    conv=>cbv
    constructor
    ·exact fun _=>⟨⟨hm2,trivial,trivial,trivial⟩,trivial,trivial⟩
    constructor
    ·exact fun _ _=>⟨⟨eT,rfl,by subst hΩ;show((bs.length:Nat):Int)=57;omega⟩,hl,hb⟩
    intro _ _
    conv=>cbv
    refine hQ () _ _ _ trivial ?_
    subst hΩ
    exact⟨⟨rfl,⟨rfl,rfl⟩,trivial⟩,rfl,rfl⟩
   ·intro h32
    have hk:k<4:=by
     refine Nat.lt_of_not_le fun h4 => ?_
     have hk4':k=4:=by omega
     have hm32:m=32:=by
      have hln2:=hln
      rw[hk4']at hln2
      have e16:(2:Nat)^4=16:=by decide
      rw[e16]at hln2
      omega
     subst hΩ
     have h2:=ne_of_beq_false h32
     exact h2 (show((m:Nat):Int)=32 by omega)
    obtain⟨k2,hk2⟩ : ∃ k2,Ω.bin .add .i64 (Int.ofNat k) 1=k2:=⟨_,rfl⟩
    have ek2:k2=((k+1:Nat):Int):=by
     rw[<- hk2,hΩ]
     show binL .add .i64 (k:Int) 1=_
     rw[qF (by omega) (by omega)];omega
    conv at hk2=>lhs;cbv
    conv=>cbv
    rw[hk2]
    refine⟨(k+1,Os,m,oc),[some 1016],⟨⟨by show 1<=k+1;omega,by show k+1<=4;omega⟩,eOs,hm2,hoc⟩,by show 5-(k+1)<5-k;omega,by decide,?_⟩
    conv=>cbv
    exact⟨ek2,trivial⟩
end Go.Sx.Tryz
end
