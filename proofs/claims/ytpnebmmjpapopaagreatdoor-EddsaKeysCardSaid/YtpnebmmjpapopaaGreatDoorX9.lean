/-
  Part of the proof of a statement: the means.
-/
import Derived.Test.YtpnebmmjpapopaaGreatDoorX81
import Derived.Test.YtpnebmmjpapopaaGreatDoorX5
import Derived.Test.YtpnebmmjpapopaaGreatDoorX6
set_option linter.unusedSectionVars false
set_option linter.unusedVariables false
set_option linter.unusedSimpArgs false
set_option linter.deprecated false
section
set_option maxHeartbeats 4000000
namespace Go.Sx.Tryz
open Go.Proofs
def qcn (Ω:Om):qe:=fun args=>match args with
 | []=>⟨True,Unit,fun _=>True,fun _ =>.row .i64 16 [268435455,268435455,268435455,268435455,268435455,268435455,268435455,268435455,268435454,268435455,268435455,268435455,268435455,268435455,268435455,268435455]⟩
 | _=>PR.none
theorem qfY:Ctr Tryz.prog T glob 104 (qcn Om.real):=by
 refine qq T_ok qf qg (fun Ω=>[]) [] (fun Ω=>[]) [] qh qi qk ql Tryz.func104 (by rfl) (by kernel_rfl) Tryz.call104 ?_ ?_
 ·intro args;unfold qcn;split
  ·exact qo (by repeat' constructor) (fun _ _=>rfl) (by repeat' constructor)
  ·exact PR.good_none
 ·intro P Ω hΩ hE hI hm args pr hs hp Q hQ
  unfold qcn at hs
  split at hs<;>subst hs<;>try (exact hp.elim)
  refine⟨1000,?_⟩
  cbv
  repeat (refine qau hE hI hm (n:=1000) ?_;cbv)
  refine hQ () _ _ _ trivial ?_
  subst hΩ
  refine⟨rfl,rfl,?_⟩
  rfl
def qec (Ω:Om):qe:=fun args=>match args with
 | [.row .i64 16 a]=>⟨∀ _:Unit,a.length=16/\(∀ x ∈ a,0<=x/\x<268435456),Unit,fun _=>True,fun _ =>.bs (Ω.hide _ fun _=>decide (valB 268435456 a<726838724295606890549323807888004534353641360687318060281490199180612328166730772686396383698676545930088884461843637361053498018365439))⟩
 | _=>PR.none
theorem qmD:Ctr Tryz.prog T glob 190 (qec Om.real):=by
 refine qq T_ok qf qg (fun Ω=>[(104,qcn Ω)]) [] (fun Ω=>[]) [] (qc qfY qh) qi qk ql Tryz.func190 (by rfl) (by kernel_rfl) Tryz.call190 ?_ ?_
 ·intro args;unfold qec;split
  ·exact qo (by repeat' constructor) (fun _ _=>rfl) (by repeat' constructor)
  ·exact PR.good_none
 ·intro P Ω hΩ hE hI hm args pr hs hp Q hQ
  unfold qec at hs
  split at hs<;>subst hs<;>try (exact hp.elim)
  rename_i a
  have hp:=hp ()
  refine⟨1000,?_⟩
  cbv
  repeat (constructor;(first|exact fun _=>trivial|exact fun _ _=>(by decide));intro _ _;cbv)
  obtain⟨hl,hd⟩:=hp
  refine qn hE hI hm (fun z:Nat × Int=>(mkT 24 [(0,.row .i64 16 a),(1,.ptr 0 (.l 0)),(2,.bl false),(3,.ptr 24 (.l 0)),(4,.int .i64 z.2)],[(0,.row .i64 16 a),(24,.row .i64 16 [268435455,268435455,268435455,268435455,268435455,268435455,268435455,268435455,268435454,268435455,268435455,268435455,268435455,268435455,268435455,268435455])])) (fun z=>z.1<=16/\z.2=z.1-1/\a.drop z.1=pL.drop z.1) (fun z=>z.1) 0 ⟨(16,15),[],⟨Nat.le_refl _,rfl,by rw[List.drop_eq_nil_of_le (by omega)];rfl⟩,Nat.zero_le _,by cbv⟩ fun z hz=>⟨1000,?_⟩
  obtain⟨n,i⟩:=z
  obtain⟨hn,hi,hdr⟩:n<=16/\i=(n:Int)-1/\a.drop n=pL.drop n:=hz
  cbv
  constructor
  ·intro hc
   cbv
   have hi:i=(n:Int)-1:=hi
   have hc':i >= 0:=by rw[hΩ]at hc;exact of_decide_eq_true hc
   obtain⟨m,rfl⟩ : ∃ m:Nat,i=m:=⟨i.toNat,by omega⟩
   repeat (refine⟨by ((try intro _);(try subst hΩ);simp (disch:=omega) only[Om.real,qb,SN.v];omega),?_⟩)
   have hmn:m<16:=by omega
   have hm1:n=m+1:=by omega
   have ea:a.getD m 0 ∈ a:=qS (by omega)
   constructor
   ·intro hne
    cbv
    repeat (refine⟨by ((try intro _);(try subst hΩ);simp (disch:=omega) only[Om.real,qb,SN.v];omega),?_⟩)
    refine hQ () _ _ _ trivial ?_
    subst hΩ
    have hne:(a.getD m 0 != pL.getD m 0)=true:=hne
    rw[bne_iff_ne]at hne
    show decide (a.getD m 0<pL.getD m 0)=decide _
    have hdr:a.drop (m+1)=pL.drop (m+1):=by rw[<- hm1];exact hdr
    have hpd : ∀ a ∈ pL,0<=a/\a<268435456:=by decide
    rcases Int.lt_or_gt_of_ne hne with hlt|hgt
    ·have:=qmc (by rw[hl];rfl) hd hpd (by omega) hdr hlt
     rw[qd2]at this
     rw[decide_eq_true hlt,decide_eq_true this]
    ·have:=qmc (by rw[hl];rfl) hpd hd (show m<16 from hmn) hdr.symm hgt
     rw[qd2]at this
     rw[decide_eq_false (by omega),decide_eq_false (by omega)]
   ·intro hne
    cbv
    obtain⟨i2,hi2⟩ : ∃ i2:Int,i2=(m:Int)-1:=⟨_,rfl⟩
    refine⟨(m,i2),[],⟨by omega,hi2,?_⟩,by simp only;omega,Nat.zero_le _,?_⟩
    ·subst hΩ
     have hne:(a.getD m 0 != pL.getD m 0)=false:=hne
     rw[bne_eq_false_iff_eq]at hne
     exact qq7 (by omega) hmn (by rw[<- hm1];exact hdr) hne
    ·cbv
     subst hΩ
     refine⟨?_,trivial⟩
     rw[hi2]
     show binL .sub .i64 (m:Int) 1=(m:Int)-1
     exact qad (by omega) (by omega)
  ·intro hc
   cbv
   have hi:i=(n:Int)-1:=hi
   have hc' : ¬ i >= 0:=by rw[hΩ]at hc;exact of_decide_eq_false hc
   have h0:n=0:=by omega
   subst h0
   refine hQ () _ _ _ trivial ?_
   subst hΩ
   show false=decide _
   have e:a=pL:=hdr
   rw[e,qd2]
   exact(decide_eq_false (Int.lt_irrefl _)).symm
end Go.Sx.Tryz
end
section
set_option maxHeartbeats 4000000
namespace Go.Sx.Tryz
open Go.Proofs
def qfZ (Ω:Om):qe:=fun args=>match args with
 | [.row .i64 16 a]=>⟨∀ _:Unit,a.length=16/\(∀ x ∈ a,-4611686018427387904<x/\x<4611686018427387904)/\0<=valB 268435456 a/\valB 268435456 a<726838724295606890549323807888004534353641360687318060281490199180612328166730772686396383698676545930088884461843637361053498018365439,Unit,fun _=>True,fun _ =>.ab (.re (Ω.hide _ fun _=>fI (valB 268435456 a)))⟩
 | _=>PR.none
theorem qrV:Ctr Tryz.prog T glob 101 (qfZ Om.real):=by
 refine qq T_ok qf qg (fun Ω=>[(190,qec Ω)]) [] (fun Ω=>[]) [] (qc qmD qh) qi qk ql Tryz.func101 (by rfl) (by kernel_rfl) Tryz.call101 ?_ ?_
 ·intro args;unfold qfZ;split
  ·exact qo (by repeat' constructor) (fun _ _=>rfl) (by repeat' constructor)
  ·exact PR.good_none
 ·intro P Ω hΩ hE hI hm args pr hs hp Q hQ
  unfold qfZ at hs
  split at hs<;>subst hs<;>try (exact hp.elim)
  rename_i a
  obtain⟨hl,hb,hv0,hv1⟩:=hp ()
  refine⟨1000,?_⟩
  cbv
  refine qn hE hI hm (fun z:Nat × List Int × Int=>(mkT 68 [(1,.ptr 0 (.l 0)),(2,.ptr 8 (.l 0)),(3,.int .i64 z.2.2)],[(8,.row .i64 16 [0,0,0,0,0,0,0,0,0,0,0,0,0,0,0,0]),(0,.row .i64 16 z.2.1)])) (fun z=>Rp (valB 268435456 a) z.1 z.2.1 z.2.2/\valB 268435456 z.2.1=valB 268435456 a) (fun z=>z.1) 0 ⟨(3,a,1),[],⟨Rp.start hl hb,rfl⟩,Nat.zero_le _,by cbv⟩ fun z hz=>⟨1000,?_⟩
  obtain⟨k,u,o⟩:=z
  obtain⟨hR,hx⟩:Rp (valB 268435456 a) k u o/\valB 268435456 u=valB 268435456 a:=hz
  cbv
  constructor
  ·intro hc
   cbv
   have ho:o ≠ 0:=by subst hΩ;exact bne_iff_ne.1 (show(o != 0)=true from hc)
   obtain⟨hk,hR'⟩:=hR.step ho
   have hub:=hR.bd
   have hul:=hR.len
   refine qn hE hI hm (fun z:Nat × Int × List Int=>(mkT 68 [(1,.ptr 0 (.l 0)),(2,.ptr 8 (.l 0)),(3,.int .i64 z.2.1),(4,.int .i64 z.1)],[(8,.row .i64 16 [0,0,0,0,0,0,0,0,0,0,0,0,0,0,0,0]),(0,.row .i64 16 z.2.2)])) (fun z=>z.1<=16/\z.2.1=rov u z.1/\z.2.2=rst u z.1) (fun z=>16-z.1) 0 ⟨(0,0,u),[],⟨Nat.zero_le _,rfl,(ql6 u).symm⟩,Nat.zero_le _,by cbv;exact⟨rfl,trivial⟩⟩ fun z hz=>⟨1000,?_⟩
   obtain⟨i,c,v⟩:=z
   obtain⟨hi,hcv,hv⟩:i<=16/\c=rov u i/\v=rst u i:=hz
   cbv
   constructor
   ·intro hc2
    cbv
    rw[hΩ]at hc2;simp (disch:=omega) only[Om.real,qb,decide_eq_true_eq,decide_eq_false_iff_not]at hc2
    have hcb:=qd0 hub i
    rw[<- hcv]at hcb
    have hvl:v.length=16:=by rw[hv,qbw,hul]
    have hvi:v.getD i 0=u.getD i 0:=by rw[hv];exact ql7 (by omega)
    have hui:=hub _ (qS (l:=u) (i:=i) (by omega))
    obtain⟨n,hn⟩ : ∃ n,n=u.getD i 0+c:=⟨_,rfl⟩
    have hadd:binL .add .i64 (v.getD i 0) c=n:=by rw[hvi,hn];exact qF (by omega) (by omega)
    obtain⟨v2,hv2⟩ : ∃ v2,v2=rst u (i+1):=⟨_,rfl⟩
    obtain⟨c2,hc2'⟩ : ∃ c2,c2=rov u (i+1):=⟨_,rfl⟩
    have ev2:v2=v.set i (n % 268435456):=by rw[hv2,ql8 (by omega),<- hv,<- hcv,<- hn]
    have ec2:c2=n / 268435456:=by rw[hc2',ql9 (by omega),<- hcv,<- hn]
    repeat (refine⟨by ((try intro _);(try subst hΩ);simp (disch:=omega) only[Om.real,qb,SN.v];omega),?_⟩)
    constructor
    ·intro hc3
     cbv
     repeat (refine⟨by ((try intro _);(try subst hΩ);simp (disch:=omega) only[Om.real,qb,SN.v];omega),?_⟩)
     have hpn:=qme (v:=v) (i:=i) (c:=c) (n:=n) (by omega) hadd (by omega) (by omega) (by subst hΩ;exact hc3)
     refine⟨(i+1,c2,v2),[],⟨by omega,hc2',hv2⟩,by simp only;omega,Nat.zero_le _,?_⟩
     cbv
     subst hΩ
     simp (disch:=omega) only[Om.real,qb]
     exact⟨hpn.2.trans ec2.symm,trivial,hpn.1.trans ev2.symm⟩
    ·intro hc3
     cbv
     repeat (refine⟨by ((try intro _);(try subst hΩ);simp (disch:=omega) only[Om.real,qb,SN.v];omega),?_⟩)
     have hpn:=qmf (v:=v) (i:=i) (c:=c) (n:=n) (by omega) hadd (by omega) (by omega) (by subst hΩ;exact hc3)
     refine⟨(i+1,c2,v2),[],⟨by omega,hc2',hv2⟩,by simp only;omega,Nat.zero_le _,?_⟩
     cbv
     subst hΩ
     simp (disch:=omega) only[Om.real,qb]
     exact⟨hpn.2.trans ec2.symm,trivial,hpn.1.trans ev2.symm⟩
   ·intro hc2
    cbv
    rw[hΩ]at hc2;simp (disch:=omega) only[Om.real,qb,decide_eq_true_eq,decide_eq_false_iff_not]at hc2
    have h16:i=16:=by omega
    subst h16
    obtain⟨u2,hu2⟩ : ∃ u2,u2=qaX u:=⟨_,rfl⟩
    have ef:=qmj hul hub
    rw[<- hv,<- hcv]at ef
    refine⟨(k-1,u2,c),[],⟨(by rw[hu2,hcv];exact hR'),(by rw[hu2,qma hul,Rp.one hul (by rw[hx];exact hv0) (by rw[hx];exact hv1),hx];omega)⟩,by simp only;omega,Nat.zero_le _,?_⟩
    cbv
    subst hΩ
    exact ef.trans hu2.symm
  ·intro hc
   cbv
   have ho:o=0:=by subst hΩ;exact bne_eq_false_iff_eq.1 (show(o != 0)=false from hc)
   subst ho
   obtain⟨hd,⟨hv0',hv1'⟩,hfi⟩:=hR.done
   constructor
   ·exact fun _ _=>⟨hR.len,hd⟩
   intro _ _
   cbv
   constructor
   ·intro hc2
    cbv
    refine hQ () _ _ _ trivial ?_
    subst hΩ
    have hlt:valB 268435456 u<726838724295606890549323807888004534353641360687318060281490199180612328166730772686396383698676545930088884461843637361053498018365439:=by rw[hx];exact hv1
    obtain⟨q1,q2,q3⟩:=qmk hR.len hd hlt hfi
    exact⟨rfl,q1,q2,q3⟩
   ·intro hc2
    exfalso
    subst hΩ
    have:=of_decide_eq_false hc2
    rw[hx]at this
    exact this hv1
end Go.Sx.Tryz
end
section
set_option maxHeartbeats 4000000
namespace Go.Sx.Tryz
open Go.Proofs
def qbY (Ω:Om):qe:=fun args=>match args with
 | [.row .i64 16 a]=>⟨∀ _:Unit,a.length=16/\(∀ x ∈ a,-4611686018427387904<x/\x<4611686018427387904),Unit,fun _=>True,fun _ =>.ab (.re (Ω.hide _ fun _=>fI (valB 268435456 a)))⟩
 | _=>PR.none
theorem qed:Ctr Tryz.prog T glob 101 (qbY Om.real):=by
 refine qq T_ok qf qg (fun Ω=>[(190,qec Ω),(104,qcn Ω),(101,qfZ Ω)]) [] (fun Ω=>[]) [] (qc qmD (qc qfY (qc qrV qh))) qi qk ql Tryz.func101 (by rfl) (by kernel_rfl) Tryz.call101 ?_ ?_
 ·intro args;unfold qbY;split
  ·exact qo (by repeat' constructor) (fun _ _=>rfl) (by repeat' constructor)
  ·exact PR.good_none
 ·intro P Ω hΩ hE hI hm args pr hs hp Q hQ
  unfold qbY at hs
  split at hs<;>subst hs<;>try (exact hp.elim)
  rename_i a
  obtain⟨hl,hb⟩:=hp ()
  refine⟨1000,?_⟩
  cbv
  refine qn hE hI hm (fun z:Nat × List Int × Int=>(mkT 68 [(1,.ptr 0 (.l 0)),(2,.ptr 8 (.l 0)),(3,.int .i64 z.2.2)],[(8,.row .i64 16 [0,0,0,0,0,0,0,0,0,0,0,0,0,0,0,0]),(0,.row .i64 16 z.2.1)])) (fun z=>Rp (valB 268435456 a) z.1 z.2.1 z.2.2/\True) (fun z=>z.1) 0 ⟨(3,a,1),[],⟨Rp.start hl hb,trivial⟩,Nat.zero_le _,by cbv⟩ fun z hz=>⟨1000,?_⟩
  obtain⟨k,u,o⟩:=z
  obtain⟨hR,hx⟩:Rp (valB 268435456 a) k u o/\True:=hz
  cbv
  constructor
  ·intro hc
   cbv
   have ho:o ≠ 0:=by subst hΩ;exact bne_iff_ne.1 (show(o != 0)=true from hc)
   obtain⟨hk,hR'⟩:=hR.step ho
   have hub:=hR.bd
   have hul:=hR.len
   refine qn hE hI hm (fun z:Nat × Int × List Int=>(mkT 68 [(1,.ptr 0 (.l 0)),(2,.ptr 8 (.l 0)),(3,.int .i64 z.2.1),(4,.int .i64 z.1)],[(8,.row .i64 16 [0,0,0,0,0,0,0,0,0,0,0,0,0,0,0,0]),(0,.row .i64 16 z.2.2)])) (fun z=>z.1<=16/\z.2.1=rov u z.1/\z.2.2=rst u z.1) (fun z=>16-z.1) 0 ⟨(0,0,u),[],⟨Nat.zero_le _,rfl,(ql6 u).symm⟩,Nat.zero_le _,by cbv;exact⟨rfl,trivial⟩⟩ fun z hz=>⟨1000,?_⟩
   obtain⟨i,c,v⟩:=z
   obtain⟨hi,hcv,hv⟩:i<=16/\c=rov u i/\v=rst u i:=hz
   cbv
   constructor
   ·intro hc2
    cbv
    rw[hΩ]at hc2;simp (disch:=omega) only[Om.real,qb,decide_eq_true_eq,decide_eq_false_iff_not]at hc2
    have hcb:=qd0 hub i
    rw[<- hcv]at hcb
    have hvl:v.length=16:=by rw[hv,qbw,hul]
    have hvi:v.getD i 0=u.getD i 0:=by rw[hv];exact ql7 (by omega)
    have hui:=hub _ (qS (l:=u) (i:=i) (by omega))
    obtain⟨n,hn⟩ : ∃ n,n=u.getD i 0+c:=⟨_,rfl⟩
    have hadd:binL .add .i64 (v.getD i 0) c=n:=by rw[hvi,hn];exact qF (by omega) (by omega)
    obtain⟨v2,hv2⟩ : ∃ v2,v2=rst u (i+1):=⟨_,rfl⟩
    obtain⟨c2,hc2'⟩ : ∃ c2,c2=rov u (i+1):=⟨_,rfl⟩
    have ev2:v2=v.set i (n % 268435456):=by rw[hv2,ql8 (by omega),<- hv,<- hcv,<- hn]
    have ec2:c2=n / 268435456:=by rw[hc2',ql9 (by omega),<- hcv,<- hn]
    repeat (refine⟨by ((try intro _);(try subst hΩ);simp (disch:=omega) only[Om.real,qb,SN.v];omega),?_⟩)
    constructor
    ·intro hc3
     cbv
     repeat (refine⟨by ((try intro _);(try subst hΩ);simp (disch:=omega) only[Om.real,qb,SN.v];omega),?_⟩)
     have hpn:=qme (v:=v) (i:=i) (c:=c) (n:=n) (by omega) hadd (by omega) (by omega) (by subst hΩ;exact hc3)
     refine⟨(i+1,c2,v2),[],⟨by omega,hc2',hv2⟩,by simp only;omega,Nat.zero_le _,?_⟩
     cbv
     subst hΩ
     simp (disch:=omega) only[Om.real,qb]
     exact⟨hpn.2.trans ec2.symm,trivial,hpn.1.trans ev2.symm⟩
    ·intro hc3
     cbv
     repeat (refine⟨by ((try intro _);(try subst hΩ);simp (disch:=omega) only[Om.real,qb,SN.v];omega),?_⟩)
     have hpn:=qmf (v:=v) (i:=i) (c:=c) (n:=n) (by omega) hadd (by omega) (by omega) (by subst hΩ;exact hc3)
     refine⟨(i+1,c2,v2),[],⟨by omega,hc2',hv2⟩,by simp only;omega,Nat.zero_le _,?_⟩
     cbv
     subst hΩ
     simp (disch:=omega) only[Om.real,qb]
     exact⟨hpn.2.trans ec2.symm,trivial,hpn.1.trans ev2.symm⟩
   ·intro hc2
    cbv
    rw[hΩ]at hc2;simp (disch:=omega) only[Om.real,qb,decide_eq_true_eq,decide_eq_false_iff_not]at hc2
    have h16:i=16:=by omega
    subst h16
    obtain⟨u2,hu2⟩ : ∃ u2,u2=qaX u:=⟨_,rfl⟩
    have ef:=qmj hul hub
    rw[<- hv,<- hcv]at ef
    refine⟨(k-1,u2,c),[],⟨(by rw[hu2,hcv];exact hR'),trivial⟩,by simp only;omega,Nat.zero_le _,?_⟩
    cbv
    subst hΩ
    exact ef.trans hu2.symm
  ·intro hc
   cbv
   have ho:o=0:=by subst hΩ;exact bne_eq_false_iff_eq.1 (show(o != 0)=false from hc)
   subst ho
   obtain⟨hd,⟨hv0',hv1'⟩,hfi⟩:=hR.done
   constructor
   ·exact fun _ _=>⟨hR.len,hd⟩
   intro _ _
   cbv
   constructor
   ·intro hc2
    cbv
    refine hQ () _ _ _ trivial ?_
    subst hΩ
    have hlt:=of_decide_eq_true (show decide (valB 268435456 u<726838724295606890549323807888004534353641360687318060281490199180612328166730772686396383698676545930088884461843637361053498018365439)=true from hc2)
    obtain⟨q1,q2,q3⟩:=qmk hR.len hd hlt hfi
    exact⟨rfl,q1,q2,q3⟩
   ·intro hc2
    have hge : ¬ valB 268435456 u<726838724295606890549323807888004534353641360687318060281490199180612328166730772686396383698676545930088884461843637361053498018365439:=by
     subst hΩ
     exact of_decide_eq_false hc2
    cbv
    constructor
    ·exact fun _=>trivial
    intro _ _
    cbv
    refine qn hE hI hm (fun z:Nat × List Int=>(mkT 68 [(1,.ptr 0 (.l 0)),(2,.ptr 8 (.l 0)),(6,.ptr 64 (.l 0)),(7,.int .i64 z.1)],[(64,.row .i64 16 pL),(8,.row .i64 16 [0,0,0,0,0,0,0,0,0,0,0,0,0,0,0,0]),(0,.row .i64 16 z.2)])) (fun z=>z.1<=16/\z.2=zst (fun x y=>x-y) u pL z.1) (fun z=>16-z.1) 0 ⟨(0,u),[],⟨Nat.zero_le _,(qin _ _ _).symm⟩,Nat.zero_le _,by cbv;exact⟨rfl,trivial⟩⟩ fun z hz=>⟨1000,?_⟩
    obtain⟨i,v⟩:=z
    obtain⟨hi,hv⟩:i<=16/\v=zst (fun x y=>x-y) u pL i:=hz
    have hul:=hR.len
    have hpl:u.length=pL.length:=hul
    cbv
    constructor
    ·intro hc3
     cbv
     rw[hΩ]at hc3;simp (disch:=omega) only[Om.real,qb,decide_eq_true_eq,decide_eq_false_iff_not]at hc3
     have hvl:v.length=16:=by rw[hv,qio hpl,hul]
     have hvi:v.getD i 0=u.getD i 0:=by rw[hv];exact qip hpl (by omega)
     have hui:=hd _ (qS (l:=u) (i:=i) (by omega))
     have hpi:=qd4 _ (qS (l:=pL) (i:=i) hc3)
     obtain⟨v2,hv2⟩ : ∃ v2,v2=zst (fun x y=>x-y) u pL (i+1):=⟨_,rfl⟩
     have ev2:v.set i (binL .sub .i64 (v.getD i 0) (pL.getD i 0))=v2:=by
      rw[hv2,qiq hpl (by omega),<- hv,hvi,qad (by omega) (by omega)]
     repeat (refine⟨by ((try intro _);(try subst hΩ);simp (disch:=omega) only[Om.real,qb,SN.v];omega),?_⟩)
     refine⟨(i+1,v2),[],⟨by omega,hv2⟩,by simp only;omega,Nat.zero_le _,?_⟩
     cbv
     subst hΩ
     simp (disch:=omega) only[Om.real,qb]
     exact⟨trivial,ev2⟩
    ·intro hc3
     cbv
     rw[hΩ]at hc3;simp (disch:=omega) only[Om.real,qb,decide_eq_true_eq,decide_eq_false_iff_not]at hc3
     have h16:i=16:=by omega
     subst h16
     have ev:v=List.zipWith (fun x y=>x-y) u pL:=by rw[hv];exact qir hpl (by omega)
     have hval:valB 268435456 v=valB 268435456 u-726838724295606890549323807888004534353641360687318060281490199180612328166730772686396383698676545930088884461843637361053498018365439:=by rw[ev,qmg _ _ hpl,qd2]
     have hvb : ∀ x ∈ v,-4611686018427387904<x/\x<4611686018427387904:=by
      rw[ev]
      refine qfD _ _ hpl fun x hx y hy => ?_
      have:=hd x hx
      have:=qd4 y hy
      omega
     constructor
     ·exact fun _ _=>⟨by rw[ev,List.length_zipWith,<- hpl,hul];rfl,hvb,by rw[hval];omega,by rw[hval];omega⟩
     intro _ _
     cbv
     refine hQ () _ _ _ trivial ?_
     subst hΩ
     have e:fI (valB 268435456 v)=fI (valB 268435456 a):=by rw[hval,qh0,hfi,show(726838724295606890549323807888004534353641360687318060281490199180612328166730772686396383698676545930088884461843637361053498018365439:Int)=1*726838724295606890549323807888004534353641360687318060281490199180612328166730772686396383698676545930088884461843637361053498018365439 from rfl,fI_p];grind -lia -linarith -order -ac (splits:=0)
     show Pay.re (fI (valB 268435456 v))=Pay.re (fI (valB 268435456 a))
     rw[e]
end Go.Sx.Tryz
end
section
set_option maxHeartbeats 4000000
namespace Go.Sx.Tryz
open Go.Proofs
set_option maxRecDepth 40000
def qee (Ω:Om):qe:=fun args=>match args with
 | [.ab (.re x),.ab (.re y)]=>⟨True,Unit,fun _=>True,fun _ =>.ab (.re (Ω.hide _ fun _=>x+y))⟩
 | _=>PR.none
theorem qmE:Ctr Tryz.prog T glob 93 (qee Om.real):=by
 refine qao T_ok qf qg (fun Ω=>[(101,qbY Ω)]) [] (fun Ω=>[]) [] (qc qed qh) qi qk ql Tryz.func93 (by rfl) (by kernel_rfl) Tryz.call93 ?_ ?_
 ·intro args;unfold qee;split
  ·exact qo (by repeat' constructor) (fun _ _=>rfl) (by repeat' constructor)
  ·exact PR.good_none
 ·intro P Ω hΩ hE hI hm args pr hs hp cs hcs Q hQ
  unfold qee at hs
  split at hs<;>subst hs<;>try (exact hp.elim)
  rename_i x y
  obtain⟨_,_,rfl,⟨xs,rfl,hx⟩,_,_,rfl,⟨ys,rfl,hy⟩,rfl⟩:=hcs
  obtain⟨hxl,hxd,hxv⟩:okRe x xs:=hx
  obtain⟨hyl,hyd,hyv⟩:okRe y ys:=hy
  have hpl:xs.length=ys.length:=hxl.trans hyl.symm
  refine⟨1000,?_⟩
  cbv
  refine qn hE hI hm (fun z:Nat × List Int=>(mkT 21 [(2,.ptr 0 (.l 0)),(3,.ptr 8 (.l 0)),(4,.ptr 16 (.l 0)),(5,.int .i64 z.1)],[(16,.row .i64 16 [0,0,0,0,0,0,0,0,0,0,0,0,0,0,0,0]),(8,.row .i64 16 ys),(0,.row .i64 16 z.2)])) (fun z=>z.1<=16/\z.2=zst (fun x y=>x+y) xs ys z.1) (fun z=>16-z.1) 0 ⟨(0,xs),[],⟨Nat.zero_le _,(qin _ _ _).symm⟩,Nat.zero_le _,by cbv;exact⟨rfl,trivial⟩⟩ fun z hz=>⟨1000,?_⟩
  obtain⟨i,v⟩:=z
  obtain⟨hi,hv⟩:i<=16/\v=zst (fun x y=>x+y) xs ys i:=hz
  cbv
  constructor
  ·intro hc3
   cbv
   rw[hΩ]at hc3;simp (disch:=omega) only[Om.real,qb,decide_eq_true_eq,decide_eq_false_iff_not]at hc3
   have hvl:v.length=16:=by rw[hv,qio hpl,hxl]
   have hvi:v.getD i 0=xs.getD i 0:=by rw[hv];exact qip hpl (by omega)
   have hui:=hxd _ (qS (l:=xs) (i:=i) (by omega))
   have hpi:=hyd _ (qS (l:=ys) (i:=i) (by omega))
   obtain⟨v2,hv2⟩ : ∃ v2,v2=zst (fun x y=>x+y) xs ys (i+1):=⟨_,rfl⟩
   have ev2:v.set i (binL .add .i64 (v.getD i 0) (ys.getD i 0))=v2:=by
    rw[hv2,qiq hpl (by omega),<- hv,hvi,qF (by omega) (by omega)]
   repeat (refine⟨by ((try intro _);(try subst hΩ);simp (disch:=omega) only[Om.real,qb,SN.v];omega),?_⟩)
   refine⟨(i+1,v2),[],⟨by omega,hv2⟩,by simp only;omega,Nat.zero_le _,?_⟩
   cbv
   subst hΩ
   simp (disch:=omega) only[Om.real,qb]
   exact⟨trivial,ev2⟩
  ·intro hc3
   cbv
   rw[hΩ]at hc3;simp (disch:=omega) only[Om.real,qb,decide_eq_true_eq,decide_eq_false_iff_not]at hc3
   have h16:i=16:=by omega
   subst h16
   have ev:v=List.zipWith (fun x y=>x+y) xs ys:=by rw[hv];exact qir hpl (by omega)
   have hval:valB 268435456 v=valB 268435456 xs+valB 268435456 ys:=by rw[ev,qmh _ _ hpl]
   constructor
   ·intro _ _
    refine⟨by rw[ev,List.length_zipWith,<- hpl,hxl];rfl,?_⟩
    rw[ev]
    refine qfD _ _ hpl fun x hx y hy => ?_
    have:=hxd x hx
    have:=hyd y hy
    omega
   intro _ _
   cbv
   refine hQ () _ _ _ trivial ?_
   subst hΩ
   show Pay.re (fI (valB 268435456 v))=Pay.re (x+y)
   rw[hval,qaD,hxv,hyv,qdQ,qdQ]
def qef (Ω:Om):qe:=fun args=>match args with
 | [.ab (.re y)]=>⟨True,Unit,fun _=>True,fun _ =>.ab (.re (Ω.hide _ fun _ =>-y))⟩
 | _=>PR.none
theorem qmF:Ctr Tryz.prog T glob 34 (qef Om.real):=by
 refine qao T_ok qf qg (fun Ω=>[(101,qbY Ω),(104,qcn Ω)]) [] (fun Ω=>[]) [] (qc qed (qc qfY qh)) qi qk ql Tryz.func34 (by rfl) (by kernel_rfl) Tryz.call34 ?_ ?_
 ·intro args;unfold qef;split
  ·exact qo (by repeat' constructor) (fun _ _=>rfl) (by repeat' constructor)
  ·exact PR.good_none
 ·intro P Ω hΩ hE hI hm args pr hs hp cs hcs Q hQ
  unfold qef at hs
  split at hs<;>subst hs<;>try (exact hp.elim)
  rename_i y
  obtain⟨_,_,rfl,⟨ys,rfl,hy⟩,rfl⟩:=hcs
  obtain⟨hyl,hyd,hyv⟩:okRe y ys:=hy
  have hpl:ys.length=pL.length:=hyl
  refine⟨1000,?_⟩
  cbv
  repeat (constructor;(first|exact fun _=>trivial|exact fun _ _=>(by decide));intro _ _;cbv)
  refine qn hE hI hm (fun z:Nat × List Int=>(mkT 21 [(1,.ptr 0 (.l 0)),(2,.ptr 8 (.l 0)),(3,.ptr 24 (.l 0)),(4,.int .i64 z.1)],[(24,.row .i64 16 pL),(8,.row .i64 16 [0,0,0,0,0,0,0,0,0,0,0,0,0,0,0,0]),(0,.row .i64 16 z.2)])) (fun z=>z.1<=16/\z.2=zst (fun x y=>y-x) ys pL z.1) (fun z=>16-z.1) 0 ⟨(0,ys),[],⟨Nat.zero_le _,(qin _ _ _).symm⟩,Nat.zero_le _,by cbv;exact⟨rfl,trivial⟩⟩ fun z hz=>⟨1000,?_⟩
  obtain⟨i,v⟩:=z
  obtain⟨hi,hv⟩:i<=16/\v=zst (fun x y=>y-x) ys pL i:=hz
  cbv
  constructor
  ·intro hc3
   cbv
   rw[hΩ]at hc3;simp (disch:=omega) only[Om.real,qb,decide_eq_true_eq,decide_eq_false_iff_not]at hc3
   have hvl:v.length=16:=by rw[hv,qio hpl,hyl]
   have hvi:v.getD i 0=ys.getD i 0:=by rw[hv];exact qip hpl (by omega)
   have hui:=hyd _ (qS (l:=ys) (i:=i) (by omega))
   have hpi:=qd4 _ (qS (l:=pL) (i:=i) hc3)
   obtain⟨v2,hv2⟩ : ∃ v2,v2=zst (fun x y=>y-x) ys pL (i+1):=⟨_,rfl⟩
   have ev2:v.set i (binL .sub .i64 (pL.getD i 0) (v.getD i 0))=v2:=by
    rw[hv2,qiq hpl (by omega),<- hv,hvi,qad (by omega) (by omega)]
   repeat (refine⟨by ((try intro _);(try subst hΩ);simp (disch:=omega) only[Om.real,qb,SN.v];omega),?_⟩)
   refine⟨(i+1,v2),[],⟨by omega,hv2⟩,by simp only;omega,Nat.zero_le _,?_⟩
   cbv
   subst hΩ
   simp (disch:=omega) only[Om.real,qb]
   exact⟨trivial,ev2⟩
  ·intro hc3
   cbv
   rw[hΩ]at hc3;simp (disch:=omega) only[Om.real,qb,decide_eq_true_eq,decide_eq_false_iff_not]at hc3
   have h16:i=16:=by omega
   subst h16
   have ev:v=List.zipWith (fun x y=>y-x) ys pL:=by rw[hv];exact qir hpl (by omega)
   have hval:valB 268435456 v=726838724295606890549323807888004534353641360687318060281490199180612328166730772686396383698676545930088884461843637361053498018365439-valB 268435456 ys:=by rw[ev,qmi _ _ hpl,qd2]
   constructor
   ·intro _ _
    refine⟨by rw[ev,List.length_zipWith,<- hpl,hyl];rfl,?_⟩
    rw[ev]
    refine qfD _ _ hpl fun x hx y hy => ?_
    have:=hyd x hx
    have:=qd4 y hy
    omega
   intro _ _
   cbv
   refine hQ () _ _ _ trivial ?_
   subst hΩ
   show Pay.re (fI (valB 268435456 v))=Pay.re (-y)
   rw[hval,qh0,hyv,qdQ,show(726838724295606890549323807888004534353641360687318060281490199180612328166730772686396383698676545930088884461843637361053498018365439:Int)=1*726838724295606890549323807888004534353641360687318060281490199180612328166730772686396383698676545930088884461843637361053498018365439 from rfl,fI_p]
   (first|(congr 1;done)|(congr 1;grind -lia -linarith -order -ac (splits:=0)))
def qf0 (Ω:Om):qe:=fun args=>match args with
 | [.ab (.re x),.ab (.re y)]=>⟨True,Unit,fun _=>True,fun _ =>.ab (.re (Ω.hide _ fun _=>x-y))⟩
 | _=>PR.none
theorem qrW:Ctr Tryz.prog T glob 92 (qf0 Om.real):=by
 refine qq T_ok qf qg (fun Ω=>[(93,qee Ω),(34,qef Ω)]) [] (fun Ω=>[]) [] (qc qmE (qc qmF qh)) qi qk ql Tryz.func92 (by rfl) (by kernel_rfl) Tryz.call92 ?_ ?_
 ·intro args;unfold qf0;split
  ·exact qo (by repeat' constructor) (fun _ _=>rfl) (by repeat' constructor)
  ·exact PR.good_none
 ·intro P Ω hΩ hE hI hm args pr hs hp Q hQ
  unfold qf0 at hs
  split at hs<;>subst hs<;>try (exact hp.elim)
  rename_i x y
  refine⟨1000,?_⟩
  cbv
  repeat (constructor;(first|exact fun _=>trivial|exact fun _ _=>(by decide));intro _ _;cbv)
  refine hQ () _ _ _ trivial ?_
  subst hΩ
  show Pay.re (x + -y)=Pay.re (x-y)
  (first|(congr 1;done)|(congr 1;grind -lia -linarith -order -ac (splits:=0)))
end Go.Sx.Tryz
end
section
set_option maxHeartbeats 4000000
namespace Go.Sx.Tryz
open Go.Proofs
set_option maxRecDepth 40000
def qc1 (Ω:Om):qe:=fun args=>match args with
 | [.ab (.re x),.ab (.re y)]=>⟨True,Unit,fun _=>True,fun _ =>.ab (.re (Ω.hide _ fun _=>x*y))⟩
 | _=>PR.none
theorem qiE:Ctr Tryz.prog T glob 91 (qc1 Om.real):=by
 refine qao T_ok qf qg (fun Ω=>[(101,qbY Ω)]) [] (fun Ω=>[]) [] (qc qed qh) qi qk ql Tryz.func91 (by rfl) (by kernel_rfl) Tryz.call91 ?_ ?_
 ·intro args;unfold qc1;split
  ·exact qo (by repeat' constructor) (fun _ _=>rfl) (by repeat' constructor)
  ·exact PR.good_none
 ·intro P Ω hΩ hE hI hm args pr hs hp cs hcs Q hQ
  unfold qc1 at hs
  split at hs<;>subst hs<;>try (exact hp.elim)
  rename_i x y
  obtain⟨_,_,rfl,⟨xs,rfl,hx⟩,_,_,rfl,⟨ys,rfl,hy⟩,rfl⟩:=hcs
  obtain⟨hxl,hxd,hxv⟩:okRe x xs:=hx
  obtain⟨hyl,hyd,hyv⟩:okRe y ys:=hy
  refine⟨1000,?_⟩
  cbv
  refine qn hE hI hm (fun z:Nat × List Int=>(mkT 64 [(2,.ptr 0 (.l 0)),(3,.ptr 8 (.l 0)),(4,.ptr 16 (.l 0)),(5,.ptr 24 (.l 0)),(6,.int .i64 z.1)],[(24,.row .i64 31 z.2),(16,.row .i64 16 [0,0,0,0,0,0,0,0,0,0,0,0,0,0,0,0]),(8,.row .i64 16 ys),(0,.row .i64 16 xs)])) (fun z=>z.1<=16/\Cv xs ys z.1 0 z.2) (fun z=>16-z.1) 0 ⟨(0,z31),[],⟨Nat.zero_le _,Cv.zero xs ys⟩,Nat.zero_le _,by cbv;exact⟨rfl,trivial⟩⟩ fun z hz=>⟨1000,?_⟩
  obtain⟨i,u⟩:=z
  obtain⟨hi,hu⟩:i<=16/\Cv xs ys i 0 u:=hz
  cbv
  constructor
  ·intro hc
   cbv
   rw[hΩ]at hc;simp (disch:=omega) only[Om.real,qb,decide_eq_true_eq,decide_eq_false_iff_not]at hc
   refine qn hE hI hm (fun z:Nat × List Int=>(mkT 64 [(2,.ptr 0 (.l 0)),(3,.ptr 8 (.l 0)),(4,.ptr 16 (.l 0)),(5,.ptr 24 (.l 0)),(6,.int .i64 i),(7,.int .i64 z.1)],[(24,.row .i64 31 z.2),(16,.row .i64 16 [0,0,0,0,0,0,0,0,0,0,0,0,0,0,0,0]),(8,.row .i64 16 ys),(0,.row .i64 16 xs)])) (fun z=>z.1<=16/\Cv xs ys i z.1 z.2) (fun z=>16-z.1) 0 ⟨(0,u),[],⟨Nat.zero_le _,hu⟩,Nat.zero_le _,by cbv;exact⟨rfl,trivial⟩⟩ fun z hz=>⟨1000,?_⟩
   obtain⟨k,v⟩:=z
   obtain⟨hk,hv⟩:k<=16/\Cv xs ys i k v:=hz
   cbv
   constructor
   ·intro hc2
    cbv
    rw[hΩ]at hc2;simp (disch:=omega) only[Om.real,qb,decide_eq_true_eq,decide_eq_false_iff_not]at hc2
    have hr:=hv.rng hxl hyl hxd hyd hc hc2
    have hs:=hv.step hxl hyl hxd hyd hc hc2
    have hvl:=hv.len
    obtain⟨v2,hv2⟩ : ∃ v2,v2=v.set (i+k) (v.getD (i+k) 0+xs.getD i 0*ys.getD k 0):=⟨_,rfl⟩
    rw[<- hv2]at hs
    have e1:binL .mul .i64 (xs.getD i 0) (ys.getD k 0)=xs.getD i 0*ys.getD k 0:=qbe (by omega) (by omega)
    have e2:binL .add .i64 (v.getD (i+k) 0) (xs.getD i 0*ys.getD k 0)=v.getD (i+k) 0+xs.getD i 0*ys.getD k 0:=qF (by omega) (by omega)
    repeat (refine⟨by ((try intro _);(try subst hΩ);simp (disch:=omega) only[Om.real,qb,SN.v];omega),?_⟩)
    refine⟨(k+1,v2),[],⟨by omega,hs⟩,by simp only;omega,Nat.zero_le _,?_⟩
    cbv
    subst hΩ
    simp (disch:=omega) only[Om.real,qb]
    exact⟨trivial,by rw[e1,e2];exact hv2.symm,trivial⟩
   ·intro hc2
    cbv
    rw[hΩ]at hc2;simp (disch:=omega) only[Om.real,qb,decide_eq_true_eq,decide_eq_false_iff_not]at hc2
    have h16:k=16:=by omega
    subst h16
    refine⟨(i+1,v),[],⟨by omega,hv.row hxl hyl hxd hyd hc⟩,by simp only;omega,Nat.zero_le _,?_⟩
    cbv
    subst hΩ
    simp (disch:=omega) only[Om.real,qb]
    exact⟨trivial,trivial⟩
  ·intro hc
   cbv
   rw[hΩ]at hc;simp (disch:=omega) only[Om.real,qb,decide_eq_true_eq,decide_eq_false_iff_not]at hc
   have h16:i=16:=by omega
   subst h16
   refine qn hE hI hm (fun z:Nat × List Int=>(mkT 64 [(2,.ptr 0 (.l 0)),(3,.ptr 8 (.l 0)),(4,.ptr 16 (.l 0)),(5,.ptr 24 (.l 0)),(8,.int .i64 z.1)],[(24,.row .i64 31 z.2),(16,.row .i64 16 [0,0,0,0,0,0,0,0,0,0,0,0,0,0,0,0]),(8,.row .i64 16 ys),(0,.row .i64 16 xs)])) (fun z=>15<=z.1/\z.1<=30/\Fd (fI (valB 268435456 xs)*fI (valB 268435456 ys)) z.1 z.2) (fun z=>z.1) 0 ⟨(30,u),[],⟨by show 15<=30;decide,by show 30<=30;decide,Fd.start hxl hu⟩,Nat.zero_le _,by cbv;exact⟨rfl,trivial⟩⟩ fun z hz=>⟨1000,?_⟩
   obtain⟨k,v⟩:=z
   obtain⟨hk0,hk,hv⟩:15<=k/\k<=30/\Fd (fI (valB 268435456 xs)*fI (valB 268435456 ys)) k v:=hz
   cbv
   constructor
   ·intro hc2
    cbv
    rw[hΩ]at hc2;simp (disch:=omega) only[Om.real,qb,decide_eq_true_eq,decide_eq_false_iff_not]at hc2
    obtain⟨hs,b1,b2,g1,g2⟩:=hv.step hc2 hk
    have hvl:=hv.len
    obtain⟨v2,hv2⟩ : ∃ v2,v2=fstp v k:=⟨_,rfl⟩
    rw[<- hv2]at hs
    unfold fstp at hv2
    have e1:binL .add .i64 (v.getD (k-16) 0) (v.getD k 0)=v.getD (k-16) 0+v.getD k 0:=qF (by omega) b1.2
    have e2:binL .add .i64 (v.getD (k-8) 0) (v.getD k 0)=v.getD (k-8) 0+v.getD k 0:=qF (by omega) b2.2
    repeat (refine⟨by ((try intro _);(try subst hΩ);simp (disch:=omega) only[Om.real,qb,SN.v];omega),?_⟩)
    refine⟨(k-1,v2),[],⟨by omega,by omega,hs⟩,by simp only;omega,Nat.zero_le _,?_⟩
    cbv
    subst hΩ
    simp (disch:=omega) only[Om.real,qb]
    exact⟨by cases k<;>rfl,by rw[e1,g1,g2,e2,hv2,g1,g2],trivial⟩
   ·intro hc2
    cbv
    rw[hΩ]at hc2;simp (disch:=omega) only[Om.real,qb,decide_eq_true_eq,decide_eq_false_iff_not]at hc2
    have h15:k=15:=by omega
    subst h15
    obtain⟨q1,q2,q3⟩:=hv.done
    refine⟨fun _=>⟨trivial,trivial,trivial,(show 0<=16 by decide),(show 16<=31 by decide),Nat.le_refl _⟩,fun _=>⟨by decide,by decide⟩,?_⟩
    constructor
    ·intro _ _;subst hΩ;exact⟨q1,q2⟩
    intro _ _
    cbv
    refine hQ () _ _ _ trivial ?_
    subst hΩ
    show Pay.re (fI (valB 268435456 (v.take 16)))=Pay.re (x*y)
    rw[q3,hxv,hyv,qdQ,qdQ]
end Go.Sx.Tryz
end
