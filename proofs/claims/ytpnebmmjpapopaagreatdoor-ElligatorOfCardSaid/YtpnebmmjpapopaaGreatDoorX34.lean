/-
  Part of the proof of a statement: the means.
-/
import Derived.Test.YtpnebmmjpapopaaGreatDoorX33
set_option linter.unusedSectionVars false
set_option linter.unusedVariables false
set_option linter.unusedSimpArgs false
set_option linter.deprecated false
section
set_option maxHeartbeats 4000000
namespace Go.Sx.Tryz
open Go.Proofs
set_option maxRecDepth 40000
def qk0 (Ω:Om):qd:=fun args=>match args with
 | [.val (.string s),.rol .u8 xss]=>⟨∀ _:Unit,(strB s).length<9223372036854775808/\xss.length<=9223372036854775807/\(∀ xs ∈ xss,xs.length<9223372036854775808 /\ ∀ a ∈ xs,0<=a/\a<256),Bool,fun b=>b=true,fun b =>.bs b⟩
 | _=>PR.none
theorem c_chicorylaw15_ElligatorOf:Ctr Tryz.prog T glob 8 (qk0 Om.real):=by
 refine qo T_ok qf qg (fun Ω=>[(26,qis Ω),(42,qiz Ω),(35,qe2 Ω),(37,qix Ω),(43,qiA Ω),(18,qfB Ω),(44,qe3 Ω)]) [] (fun Ω=>[]) [] (qb qw9 (qb qxl (qb qnY (qb qxi (qb qxo (qb qqi (qb qnZ qh))))))) qi qk ql Tryz.func8 (by rfl) (by kernel_rfl) Tryz.call8 ?_ ?_
 ·intro args;unfold qk0;split
  ·exact qny ⟨trivial,trivial,trivial⟩ fun _=>⟨_,rfl⟩
  ·exact PR.good_none
 ·intro P Ω hΩ hE hI hm args pr hs hp Q hQ
  unfold qk0 at hs
  split at hs<;>subst hs<;>try (exact hp.elim)
  rename_i s xss
  obtain⟨hs1,hs2,hb⟩:=hp ()
  obtain⟨d,hd⟩ : ∃ d,strB s=d:=⟨_,rfl⟩
  have hd2:=hd
  conv at hd2=>lhs;cbv
  obtain⟨L,hL⟩ : ∃ L,xss.length=L:=⟨_,rfl⟩
  have hL2:Ω.len2 xss=L:=by rw[hΩ];exact hL
  conv at hL2=>lhs;cbv
  refine⟨1000,?_⟩
  conv=>cbv
  rw[hd2]
  constructor
  ·intro hc
   conv=>cbv
   constructor
   ·exact fun(_:Unit)=>trivial
   intro w hw
   conv=>cbv
   refine hQ _ _ _ _ ?_ rfl
   exact hw
  intro hc
  conv=>cbv
  rw[hL2]
  constructor
  ·intro hc
   conv=>cbv
   constructor
   ·exact fun(_:Unit)=>trivial
   intro w hw
   conv=>cbv
   refine hQ _ _ _ _ ?_ rfl
   exact hw
  intro hc2
  have h6:L<=6:=by
   subst hΩ
   have h2 : ¬ ((L:Nat):Int) > 6:=of_decide_eq_false hc2
   omega
  have hd300:d.length<=300:=by
   subst hΩ
   have h2 : ¬ ((d.length:Nat):Int) > 300:=of_decide_eq_false hc
   omega
  conv=>cbv
  refine qr hE hI hm (fun x:Nat × List Int × Nat × Nat=>(mkT 93 [(0,.val (.string s)),(1,.rol .u8 xss),(4,.bl false),(5,.sl 88 1 (.l 0) (.s x.2.2.1) (.s x.2.2.2)),(6,.int .i64 x.1)],[(88,.seq .u8 x.2.1)])) (fun x=>x.1<=L/\x.2.1=(xss.take x.1).flatten/\x.2.2.1=x.2.1.length/\x.2.2.1<=x.2.2.2/\x.2.2.1<=300*x.1/\(∀ i,i<x.1->(xss.getD i []).length<=300)) (fun x=>L-x.1) 1 ⟨(0,[],0,0),[none],⟨Nat.zero_le _,rfl,rfl,Nat.le_refl _,Nat.zero_le _,fun i hi=>absurd hi (Nat.not_lt_zero _)⟩,by decide,?_⟩ fun x hj=>⟨1000,?_⟩
  ·conv=>cbv
   exact rfl
  obtain⟨i,al,la,ca⟩:=x
  obtain⟨j1,j2,j3,j4,j5,j6⟩:i<=L/\al=(xss.take i).flatten/\la=al.length/\la<=ca/\la<=300*i/\(∀ k,k<i->(xss.getD k []).length<=300):=hj
  obtain⟨bb,hbb⟩ : ∃ bb,xss.getD i []=bb:=⟨_,rfl⟩
  have hAt:Ω.at2 xss (Ω.toN (Int.ofNat i))=bb:=by rw[hΩ];exact hbb
  conv at hAt=>lhs;cbv
  conv=>cbv
  rw[hL2]
  constructor
  ·intro hcl
   have hi:i<L:=by
    subst hΩ
    have h2:((i:Nat):Int)<((L:Nat):Int):=of_decide_eq_true hcl
    omega
   conv=>cbv
   constructor
   ·exact fun(_:Unit)=>⟨Int.natCast_nonneg i,by subst hΩ;show(i:Int)<((xss.length:Nat):Int);omega⟩
   constructor
   ·exact fun(_:Unit)=>by subst hΩ;show i<xss.length;omega
   rw[hAt]
   constructor
   ·intro h300
    conv=>cbv
    constructor
    ·exact fun(_:Unit)=>trivial
    intro w hw
    conv=>cbv
    refine hQ _ _ _ _ ?_ rfl
    exact hw
   intro h300
   have hb3:bb.length<=300:=by
    subst hΩ
    have h2 : ¬ ((bb.length:Nat):Int) > 300:=of_decide_eq_false h300
    omega
   obtain⟨a2,ha2⟩ : ∃ a2,a2=al++bb:=⟨_,rfl⟩
   obtain⟨l2,hl2⟩ : ∃ l2,l2=la+bb.length:=⟨_,rfl⟩
   have f0:Ω.nadd la (Ω.len bb)=l2:=by rw[hl2,hΩ];rfl
   have f1:Ω.cat (Ω.sub al 0 la) bb=a2:=by
    rw[ha2,hΩ]
    show(al.drop 0).take la++bb=al++bb
    rw[List.drop_zero,j3,List.take_length]
   obtain⟨i2,hi2⟩ : ∃ i2,Ω.bin .add .i64 (Int.ofNat i) 1=i2:=⟨_,rfl⟩
   have ei2:i2=((i+1:Nat):Int):=by
    rw[<- hi2,hΩ]
    show binL .add .i64 (i:Int) 1=_
    rw[qw (by omega) (by omega)];omega
   conv at hi2=>lhs;cbv
   conv=>cbv
   constructor
   ·exact fun(_:Unit)=>⟨Int.natCast_nonneg i,by subst hΩ;show(i:Int)<((xss.length:Nat):Int);omega⟩
   constructor
   ·exact fun(_:Unit)=>by subst hΩ;show i<xss.length;omega
   rw[hAt]
   constructor
   ·exact fun(_:Unit)=>by subst hΩ;show(la+bb.length)*1<=140737488355328;omega
   constructor
   ·exact fun(_:Unit)=>⟨by show 0+la*1<=al.length;omega,trivial⟩
   intro cap2 hcap2
   have hcap3:la+bb.length<=cap2:=by
    subst hΩ
    exact hcap2
   have htk:(xss.take (i+1)).flatten=(xss.take i).flatten++bb:=by
    rw[List.take_succ_eq_append_getElem (show i<xss.length by omega),List.flatten_append,<- hbb]
    simp[List.getD,show i<xss.length by omega]
   conv=>cbv
   rw[hi2]
   refine⟨(i+1,a2,l2,cap2),[some 216],⟨by show i+1<=L;omega,by show a2=_;rw[ha2,htk,j2],by show l2=a2.length;rw[ha2,List.length_append,hl2,j3],by show l2<=cap2;omega,by show l2<=300*(i+1);omega,fun k hk => ?_⟩,by show L-(i+1)<L-i;omega,by decide,?_⟩
   ·have hk:k<i+1:=hk
    by_cases e:k=i
    ·rw[e,hbb];exact hb3
    ·exact j6 k (by omega)
   conv=>cbv
   exact⟨f0,ei2,f1⟩
  intro hcl
  have hiL:i=L:=by
   subst hΩ
   have h2 : ¬ ((i:Nat):Int)<((L:Nat):Int):=of_decide_eq_false hcl
   omega
  have hal:al=xss.flatten:=by rw[j2,hiL,<- hL,List.take_length]
  have hfl:xss.flatten.length<=1800:=by rw[<- hal];omega
  have hsub:(al.drop 0).take la=xss.flatten:=by rw[List.drop_zero,j3,List.take_length];exact hal
  have hdl:(strB s).length<100000:=by rw[hd];omega
  conv=>cbv
  constructor
  ·exact fun(_:Unit) (_:Unit)=>⟨hdl,by omega,by omega⟩
  intro z hz
  have hz:z=decide ((strB s).length<=255):=hz
  rw[hd]at hz
  cases z with
  | false =>
    have h255 : ¬ d.length<=255:=of_decide_eq_false hz.symm
    conv=>cbv
    constructor
    · exact fun(_:Unit)=>⟨trivial,⟨(by show 0+la<=al.length;omega),trivial⟩,trivial⟩
    constructor
    · intro _ _
      subst hΩ
      refine⟨hdl,(by decide:(1:Nat)<1000),?_⟩
      show([(al.drop 0).take la]).flatten.length<=100000
      rw[hsub]
      simp only[List.flatten_cons,List.flatten_nil,List.append_nil]
      omega
    intro y hy
    conv=>cbv
    have hy1:y=false:=by
      have h2:y=decide ((strB s).length<=255):=hy
      rw[h2,hd];exact hz.symm
    subst hy1
    conv=>cbv
    rw[hd2]
    constructor
    rotate_left
    · intro h
      have h':False:=by (subst hΩ;have h2 : ¬ ((d.length:Nat):Int) > 255:=of_decide_eq_false h;omega);first|done|(subst hΩ;exact Bool.noConfusion (show true=false from h))
      contradiction
    intro _
    conv=>cbv
    constructor
    · exact fun(_:Unit)=>trivial
    intro w hw
    conv=>cbv
    refine hQ _ _ _ _ ?_ rfl
    exact hw
  | true =>
    have h255:d.length<=255:=of_decide_eq_true hz.symm
    conv=>cbv
    constructor
    · exact fun(_:Unit)=>⟨trivial,⟨(by show 0+la<=al.length;omega),trivial⟩,trivial⟩
    constructor
    · intro _ _
      subst hΩ
      refine⟨hdl,(by decide:(1:Nat)<1000),?_⟩
      show([(al.drop 0).take la]).flatten.length<=100000
      rw[hsub]
      simp only[List.flatten_cons,List.flatten_nil,List.append_nil]
      omega
    intro y hy
    conv=>cbv
    have hy1:y=true:=by
      have h2:y=decide ((strB s).length<=255):=hy
      rw[h2,hd];exact hz.symm
    subst hy1
    conv=>cbv
    rw[hd2]
    constructor
    · intro h
      have h':False:=by (subst hΩ;have h2:((d.length:Nat):Int) > 255:=of_decide_eq_true h;omega);first|done|(subst hΩ;exact Bool.noConfusion (show false=true from h))
      contradiction
    intro _
    conv=>cbv
    have eP:ofP (strB s) xss=ofP (strB s) [(al.drop 0).take la]:=by rw[hsub,qxk]
    constructor;(first|exact fun(_:Unit)=>trivial|exact fun(_:Unit) (_:Unit)=>(by decide));intro _ _;conv=>cbv
    constructor
    rotate_left
    · intro h
      have h':False:=by (subst hΩ;exact Bool.noConfusion ((qqf eP).symm.trans h))
      exact h'.elim
    intro _
    conv=>cbv
    constructor
    · exact fun(_:Unit) (_:Unit)=>⟨⟨by rw[hd];exact h255,by omega,by omega⟩,fun xs hx=>(hb xs hx).2⟩
    intro _ _
    conv=>cbv
    constructor;(first|exact fun(_:Unit)=>trivial|exact fun(_:Unit) (_:Unit)=>(by decide));intro _ _;conv=>cbv
    constructor
    rotate_left
    · intro h
      have h':False:=by (subst hΩ;exact Bool.noConfusion ((beq_self_eq_true (qah (encF (ofP (strB s) xss)))).symm.trans h))
      exact h'.elim
    intro _
    conv=>cbv
    constructor
    · exact fun(_:Unit)=>trivial
    intro u hu
    conv=>cbv
    constructor
    · exact fun(_:Unit)=>trivial
    intro v hv
    conv=>cbv
    have hu2:u.1=qah (encF (ofP (strB s) xss))/\u.1.length<=u.2:=by subst hΩ;exact hu
    have hv2:v.1=qah (encF (ofP (strB s) [(al.drop 0).take la]))/\v.1.length<=v.2:=by subst hΩ;exact hv
    have hsu:(u.1.drop 0).take u.1.length=u.1:=by rw[List.drop_zero,List.take_length]
    have hsv:(v.1.drop 0).take v.1.length=v.1:=by rw[List.drop_zero,List.take_length]
    constructor
    · exact fun(_:Unit)=>⟨by subst hΩ;show 0+u.1.length<=u.1.length;omega,by subst hΩ;show 0+v.1.length<=v.1.length;omega,trivial⟩
    constructor
    · intro _ _
      subst hΩ
      show((u.1.drop 0).take u.1.length).length<9223372036854775807/\((v.1.drop 0).take v.1.length).length<9223372036854775807
      rw[hsu,hsv,hu2.1,hv2.1,qeU,qeU]
      decide
    intro _ _
    conv=>cbv
    have q3:((u.1.drop 0).take u.1.length == (v.1.drop 0).take v.1.length)=true:=by rw[hsu,hsv,hu2.1,hv2.1,<- eP];exact beq_self_eq_true _
    constructor
    rotate_left
    · intro h
      have h':False:=by (subst hΩ;exact Bool.noConfusion (q3.symm.trans h))
      exact h'.elim
    intro _
    conv=>cbv
    constructor
    · exact fun(_:Unit)=>trivial
    intro w hw
    conv=>cbv
    refine hQ _ _ _ _ ?_ rfl
    exact hw
end Go.Sx.Tryz
end
