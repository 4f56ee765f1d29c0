/-
  Part of the proof of a statement: the means.
-/
import Derived.Test.YtpnebmmjpapopaaGreatDoorX91
import Derived.Test.YtpnebmmjpapopaaGreatDoorX6
set_option linter.unusedSectionVars false
set_option linter.unusedVariables false
set_option linter.unusedSimpArgs false
set_option linter.deprecated false
section
set_option maxHeartbeats 4000000
namespace Go.Sx.Tryz
open Go.Proofs
set_option maxRecDepth 40000
def qfy (Ω:Om):qd:=fun args=>match args with
 | [.ab (.re a),.roi .u8 bs]=>⟨∀ _:Unit,bs.length<1152921504606846976/\Byt bs,Unit,fun _=>True,fun _ =>.ab (.re (Ω.hide _ fun _=>pw a (nV bs)))⟩
 | _=>PR.none
theorem qqa:Ctr Tryz.prog T glob 185 (qfy Om.real):=by
 refine qo T_ok qf qg (fun Ω=>[(90,qcc Ω),(91,qbr Ω),(169,qd6 Ω)]) [] (fun Ω=>[]) [] (qb qd4 (qb qcb (qb qkV qh))) qi qk ql Tryz.func185 (by rfl) (by kernel_rfl) Tryz.call185 ?_ ?_
 ·intro args;unfold qfy;split
  ·exact qt (by repeat' constructor) (fun _ _=>rfl) (by repeat' constructor)
  ·exact PR.good_none
 ·intro P Ω hΩ hE hI hm args pr hs hp Q hQ
  unfold qfy at hs
  split at hs<;>subst hs<;>try (exact hp.elim)
  rename_i a bs
  obtain⟨hl,hb⟩:=hp ()
  refine⟨1000,?_⟩
  conv=>cbv
  repeat (constructor;(first|exact fun _=>trivial|exact fun _ _=>(by decide));intro _ _;conv=>cbv)
  obtain⟨L8,hL8⟩ : ∃ L8:Nat,L8=8*bs.length:=⟨_,rfl⟩
  obtain⟨i0,hi0⟩ : ∃ i0:Int,i0=(L8:Int)-1:=⟨_,rfl⟩
  have e0:Ω.bin .sub .i64 (Ω.bin .mul .i64 8 (Ω.ofN (Ω.len bs))) 1=i0:=by
   subst hΩ
   show binL .sub .i64 (binL .mul .i64 8 (bs.length:Int)) 1=i0
   rw[qaU (by omega) (by omega),qO (by omega) (by omega)];omega
  have h8:=qhd hb
  obtain⟨one,hone⟩ : ∃ one,one=fI 1:=⟨_,rfl⟩
  refine qr hE hI hm (fun z:Nat × Int × Fp=>(mkT 27 [(1,.roi .u8 bs),(2,.ptr 0 (.l 0)),(4,.ptr 8 (.l 0)),(5,.ptr 24 (.l 0)),(6,.int .i64 z.2.1)],[(24,.ab (.re z.2.2)),(8,.row .i64 16 [0,0,0,0,0,0,0,0,0,0,0,0,0,0,0,0]),(0,.ab (.re a))])) (fun z=>z.1<=L8/\z.2.1=z.1-1/\z.2.2=pw a (nV bs / 2^z.1)) (fun z=>z.1) 0 ⟨(L8,i0,one),[],⟨Nat.le_refl _,hi0,by rw[hone,qao,Nat.div_eq_of_lt (by show nV bs<2^L8;rw[hL8];exact h8)];rfl⟩,Nat.zero_le _,?_⟩ fun z hz=>⟨1000,?_⟩
  ·conv=>cbv
   subst hΩ
   exact⟨e0,congrArg Pay.re hone.symm,trivial⟩
  obtain⟨n,i,x⟩:=z
  obtain⟨hn,hi,hx⟩:n<=L8/\i=(n:Int)-1/\x=pw a (nV bs / 2^n):=hz
  conv=>cbv
  constructor
  ·intro hc
   have hc':i >= 0:=by rw[hΩ]at hc;exact of_decide_eq_true hc
   obtain⟨m,rfl⟩ : ∃ m:Nat,i=m:=⟨i.toNat,by omega⟩
   have hm1:n=m+1:=by omega
   have hb2:=qhc (nV bs) m
   have hst:pw a (nV bs / 2^m)=if bitN (nV bs) m=1 then x*x*a else x*x:=by
    rw[half_bit,hx,hm1,Nat.mul_comm 2,qcZ,qcp]
    have e2:pw (pw a (nV bs / 2^(m+1))) 2=pw a (nV bs / 2^(m+1))*pw a (nV bs / 2^(m+1)):=by
     generalize pw a (nV bs / 2^(m+1))=w
     simp only[pw];grind -lia -linarith -order -ac (splits:=0)
    rw[e2]
    by_cases e:bitN (nV bs) m=1
    ·rw[if_pos e,e,qc0]
    ·rw[if_neg e,show bitN (nV bs) m=0 by omega]
     generalize pw a (nV bs / 2^(m+1))=w
     simp only[pw];grind -lia -linarith -order -ac (splits:=0)
   have ht:(if (m:Int)<0 then (0:Int) else ((bitN (nV bs) (m:Int).toNat:Nat):Int))=((bitN (nV bs) m:Nat):Int):=by
    rw[if_neg (by omega),Int.toNat_natCast]
   obtain⟨x2,hx2⟩ : ∃ x2,x2=pw a (nV bs / 2^m):=⟨_,rfl⟩
   obtain⟨i2,hi2⟩ : ∃ i2:Int,i2=(m:Int)-1:=⟨_,rfl⟩
   have ei:binL .sub .i64 (m:Int) 1=i2:=by rw[qO (by omega) (by omega),hi2]
   conv=>cbv
   repeat (constructor;(first|exact fun _=>trivial|exact fun _ _=>(by decide));intro _ _;conv=>cbv)
   have hmi : -9223372036854775808<=(m:Int)/\(m:Int)<9223372036854775808:=by omega
   constructor
   ·exact fun _ _=>⟨by omega,hmi,hb⟩
   intro _ _
   conv=>cbv
   constructor
   ·intro hc2
    have hbt:bitN (nV bs) m=1:=by
     subst hΩ
     have h:(if (m:Int)<0 then (0:Int) else ((bitN (nV bs) (m:Int).toNat:Nat):Int))=1:=eq_of_beq hc2
     rw[ht]at h;omega
    rw[if_pos hbt]at hst
    conv=>cbv
    repeat (constructor;(first|exact fun _=>trivial|exact fun _ _=>(by decide));intro _ _;conv=>cbv)
    refine⟨(m,i2,x2),[],⟨by omega,hi2,hx2⟩,by simp only;omega,Nat.zero_le _,?_⟩
    conv=>cbv
    subst hΩ
    exact⟨ei,by rw[hx2,hst];rfl,trivial⟩
   ·intro hc2
    have hbt : ¬ bitN (nV bs) m=1:=by
     subst hΩ
     have h : ¬ (if (m:Int)<0 then (0:Int) else ((bitN (nV bs) (m:Int).toNat:Nat):Int))=1:=ne_of_beq_false hc2
     rw[ht]at h;omega
    rw[if_neg hbt]at hst
    conv=>cbv
    refine⟨(m,i2,x2),[],⟨by omega,hi2,hx2⟩,by simp only;omega,Nat.zero_le _,?_⟩
    conv=>cbv
    subst hΩ
    exact⟨ei,by rw[hx2,hst];rfl,trivial⟩
  ·intro hc
   have hc' : ¬ i >= 0:=by rw[hΩ]at hc;exact of_decide_eq_false hc
   have h0:n=0:=by omega
   conv=>cbv
   refine hQ () _ _ _ trivial ?_
   subst hΩ
   show Pay.re x=Pay.re (pw a (nV bs))
   rw[hx,h0,Nat.pow_zero,Nat.div_one]
def qii (Ω:Om):qd:=fun args=>match args with
 | [.ab (.re x)]=>⟨True,Unit,fun _=>True,fun _ =>.bs (Ω.hide _ fun _=>decide (x.val % 2=1))⟩
 | _=>PR.none
theorem qwZ:Ctr Tryz.prog T glob 167 (qii Om.real):=by
 refine qap T_ok qf qg (fun Ω=>[]) [] (fun Ω=>[]) [] qh qi qk ql Tryz.func167 (by rfl) (by kernel_rfl) Tryz.call167 ?_ ?_
 ·intro args;unfold qii;split
  ·exact qt (by repeat' constructor) (fun _ _=>rfl) (by repeat' constructor)
  ·exact PR.good_none
 ·intro P Ω hΩ hE hI hm args pr hs hp cs hcs Q hQ
  unfold qii at hs
  split at hs<;>subst hs<;>try (exact hp.elim)
  rename_i x
  obtain⟨_,_,rfl,⟨xs,rfl,hx⟩,rfl⟩:=hcs
  have hx:okRe x xs:=hx
  refine⟨1000,?_⟩
  conv=>cbv
  refine hQ () _ _ _ trivial ?_
  subst hΩ
  show(binL .rem .i64 (xs.getD 0 0) 2 == 1)=decide (x.val % 2=1)
  have h0:=hx.2.1 _ (q9 (l:=xs) (i:=0) (by rw[hx.1];decide))
  have e:binL .rem .i64 (xs.getD 0 0) 2=xs.getD 0 0 % 2:=Int.tmod_eq_emod_of_nonneg h0.1
  rw[e,quw hx,Bool.beq_eq_decide_eq]
  apply decide_eq_decide.2
  omega
def qd7 (Ω:Om):qd:=fun args=>match args with
 | [.ab (.re x)]=>⟨True,Unit,fun _=>True,fun _ =>.ab (.re (Ω.hide _ fun _=>fabs x))⟩
 | _=>PR.none
theorem qkW:Ctr Tryz.prog T glob 95 (qd7 Om.real):=by
 refine qo T_ok qf qg (fun Ω=>[(167,qii Ω),(34,qcK Ω)]) [] (fun Ω=>[]) [] (qb qwZ (qb qfv qh)) qi qk ql Tryz.func95 (by rfl) (by kernel_rfl) Tryz.call95 ?_ ?_
 ·intro args;unfold qd7;split
  ·exact qt (by repeat' constructor) (fun _ _=>rfl) (by repeat' constructor)
  ·exact PR.good_none
 ·intro P Ω hΩ hE hI hm args pr hs hp Q hQ
  unfold qd7 at hs
  split at hs<;>subst hs<;>try (exact hp.elim)
  rename_i x
  refine⟨1000,?_⟩
  conv=>cbv
  repeat (constructor;(first|exact fun _=>trivial|exact fun _ _=>(by decide));intro _ _;conv=>cbv)
  constructor
  ·intro hc
   cbv
   repeat (constructor;(first|exact fun _=>trivial|exact fun _ _=>(by decide));intro _ _;conv=>cbv)
   refine hQ () _ _ _ trivial ?_
   subst hΩ
   have h:x.val % 2=1:=of_decide_eq_true hc
   exact congrArg Pay.re (if_pos h).symm
  ·intro hc
   cbv
   refine hQ () _ _ _ trivial ?_
   subst hΩ
   have h : ¬ x.val % 2=1:=of_decide_eq_false hc
   exact congrArg Pay.re (if_neg h).symm
def qdm (Ω:Om):qd:=fun args=>match args with
 | [.ab (.re x)]=>⟨True,Unit,fun _=>True,fun _ =>.ab (.re (Ω.hide _ fun _=>finv x))⟩
 | _=>PR.none
theorem qij:Ctr Tryz.prog T glob 97 (qdm Om.real):=by
 refine qo T_ok qf qg (fun Ω=>[(187,qfx Ω),(186,qif Ω),(185,qfy Ω)]) [] (fun Ω=>[]) [] (qb qp9 (qb qwU (qb qqa qh))) qi qk ql Tryz.func97 (by rfl) (by kernel_rfl) Tryz.call97 ?_ ?_
 ·intro args;unfold qdm;split
  ·exact qt (by repeat' constructor) (fun _ _=>rfl) (by repeat' constructor)
  ·exact PR.good_none
 ·intro P Ω hΩ hE hI hm args pr hs hp Q hQ
  unfold qdm at hs
  split at hs<;>subst hs<;>try (exact hp.elim)
  rename_i x
  refine⟨1000,?_⟩
  conv=>cbv
  constructor
  ·exact fun _=>trivial
  intro z hz
  have hz:z.1=qbG/\z.1.length<=z.2:=by subst hΩ;exact hz
  have hzb:Byt z.1:=by rw[hz.1];decide
  have hzl:z.1.length=56:=by rw[hz.1];rfl
  conv=>cbv
  have hsub:(z.1.drop 0).take z.1.length=z.1:=by rw[List.drop_zero,List.take_length]
  constructor
  ·exact fun _=>⟨by subst hΩ;show 0+z.1.length<=z.1.length;omega,by show 0+1<=1;decide,trivial⟩
  constructor
  ·intro _ _
   subst hΩ
   show nV [2]<=nV ((z.1.drop 0).take z.1.length)/\(((z.1.drop 0).take z.1.length).length<_/\_)/\Byt ((z.1.drop 0).take z.1.length)/\_
   rw[hsub,hz.1]
   exact⟨by decide +kernel,⟨by decide,by decide⟩,by decide,by decide⟩
  intro y hy
  have hy:nV y.1=nV qbG-nV [2]/\Byt y.1/\y.1.length<=56/\y.1.length<=y.2:=by
   subst hΩ
   have h:nV y.1=nV ((z.1.drop 0).take z.1.length)-nV [2]/\Byt y.1/\y.1.length<=((z.1.drop 0).take z.1.length).length/\y.1.length<=y.2:=hy
   rw[hsub,hz.1]at h
   exact h
  obtain⟨ys,yc⟩:=y
  obtain⟨hy1,hy2,hy3,hy4⟩:nV ys=nV qbG-nV [2]/\Byt ys/\ys.length<=56/\ys.length<=yc:=hy
  have hsub2:(ys.drop 0).take ys.length=ys:=by rw[List.drop_zero,List.take_length]
  conv=>cbv
  constructor
  ·exact fun _=>⟨trivial,by subst hΩ;show 0+ys.length<=ys.length;omega,trivial⟩
  constructor
  ·intro _ _
   subst hΩ
   show((ys.drop 0).take ys.length).length<_/\Byt ((ys.drop 0).take ys.length)
   rw[hsub2]
   exact⟨by omega,hy2⟩
  intro _ _
  conv=>cbv
  refine hQ () _ _ _ trivial ?_
  subst hΩ
  show Pay.re (pw x (nV ((ys.drop 0).take ys.length)))=Pay.re (finv x)
  rw[hsub2,hy1,quv]
def qfz (Ω:Om):qd:=fun args=>match args with
 | [.ab (.re a)]=>⟨True,Bool,fun z=>z=decide (a*qq a*(a*qq a)=a),fun z=>match z with|true =>.tup [.ab (.re (Ω.hide _ fun _=>fabs (a*qq a))),.bl true]|false =>.tup [.row .i64 16 [0,0,0,0,0,0,0,0,0,0,0,0,0,0,0,0],.bl false]⟩
 | _=>PR.none
theorem qqb:Ctr Tryz.prog T glob 184 (qfz Om.real):=by
 refine qo T_ok qf qg (fun Ω=>[(187,qfx Ω),(124,qig Ω),(244,qih Ω),(185,qfy Ω),(91,qbr Ω),(100,qic Ω),(95,qd7 Ω)]) [] (fun Ω=>[]) [] (qb qp9 (qb qwW (qb qwY (qb qqa (qb qcb (qb qwQ (qb qkW qh))))))) qi qk ql Tryz.func184 (by rfl) (by kernel_rfl) Tryz.call184 ?_ ?_
 ·intro args;unfold qfz;split
  ·exact qba ⟨fun x=>by cases x<;>repeat' (first|exact trivial|constructor),fun E x b=>by cases x<;>rfl⟩ ⟨trivial,trivial⟩ (fun _=>⟨_,rfl⟩)
  ·exact PR.good_none
 ·intro P Ω hΩ hE hI hm args pr hs hp Q hQ
  unfold qfz at hs
  split at hs<;>subst hs<;>try (exact hp.elim)
  rename_i a
  refine⟨1000,?_⟩
  conv=>cbv
  constructor
  ·exact fun _=>trivial
  intro z hz
  have hz:z.1=qbG/\z.1.length<=z.2:=by subst hΩ;exact hz
  have hzb:Byt z.1:=by rw[hz.1];decide
  have hzl:z.1.length=56:=by rw[hz.1];rfl
  conv=>cbv
  have hsub:(z.1.drop 0).take z.1.length=z.1:=by rw[List.drop_zero,List.take_length]
  constructor
  ·exact fun _=>⟨by subst hΩ;show 0+z.1.length<=z.1.length;omega,by show 0+1<=1;decide,trivial⟩
  constructor
  ·intro _ _
   subst hΩ
   show(((z.1.drop 0).take z.1.length).length<_/\_)/\Byt ((z.1.drop 0).take z.1.length)/\_
   rw[hsub,hz.1]
   exact⟨⟨by decide,by decide⟩,by decide,by decide⟩
  intro y hy
  have hy:nV y.1=nV qbG+nV [1]/\Byt y.1/\y.1.length<=57/\y.1.length<=y.2:=by
   subst hΩ
   have h:nV y.1=nV ((z.1.drop 0).take z.1.length)+nV [1]/\Byt y.1/\y.1.length<=max ((z.1.drop 0).take z.1.length).length [1].length+1/\y.1.length<=y.2:=hy
   rw[hsub,hz.1]at h
   exact h
  obtain⟨ys,yc⟩:=y
  obtain⟨hy1,hy2,hy3,hy4⟩:nV ys=nV qbG+nV [1]/\Byt ys/\ys.length<=57/\ys.length<=yc:=hy
  have hsub2:(ys.drop 0).take ys.length=ys:=by rw[List.drop_zero,List.take_length]
  conv=>cbv
  constructor
  ·exact fun _=>⟨by subst hΩ;show 0+ys.length<=ys.length;omega,trivial,trivial⟩
  constructor
  ·intro _ _
   subst hΩ
   show(_/\_)/\((ys.drop 0).take ys.length).length<_/\Byt ((ys.drop 0).take ys.length)
   rw[hsub2]
   exact⟨⟨by decide,by decide⟩,by omega,hy2⟩
  intro x hx
  have hx:nV x.1=nV ys / 2^2/\Byt x.1/\x.1.length<=57/\x.1.length<=x.2:=by
   subst hΩ
   have h:nV x.1=nV ((ys.drop 0).take ys.length) / 2^2/\Byt x.1/\x.1.length<=((ys.drop 0).take ys.length).length/\x.1.length<=x.2:=hx
   rw[hsub2]at h
   exact⟨h.1,h.2.1,by omega,h.2.2.2⟩
  obtain⟨xs,xc⟩:=x
  obtain⟨hx1,hx2,hx3,hx4⟩:nV xs=nV ys / 2^2/\Byt xs/\xs.length<=57/\xs.length<=xc:=hx
  have hsub3:(xs.drop 0).take xs.length=xs:=by rw[List.drop_zero,List.take_length]
  have hxv:nV xs=181709681073901722637330951972001133588410340171829515070372549795153082041682693171599095924669136482522221115460909340263374504591360:=by
   rw[hx1,hy1];decide +kernel
  conv=>cbv
  constructor
  ·exact fun _=>⟨trivial,by subst hΩ;show 0+xs.length<=xs.length;omega,trivial⟩
  constructor
  ·intro _ _
   subst hΩ
   show((xs.drop 0).take xs.length).length<_/\Byt ((xs.drop 0).take xs.length)
   rw[hsub3]
   exact⟨by omega,hx2⟩
  intro _ _
  conv=>cbv
  have hpv:pw a (nV ((xs.drop 0).take xs.length))=a*qq a:=by rw[hsub3,hxv,quq]
  repeat (constructor;(first|exact fun _=>trivial|exact fun _ _=>(by decide));intro _ _;conv=>cbv)
  constructor
  ·intro hc
   have h : ¬ a*qq a*(a*qq a)=a:=by
    subst hΩ
    have h:(!decide (pw a (nV ((xs.drop 0).take xs.length))*pw a (nV ((xs.drop 0).take xs.length))=a))=true:=hc
    rw[hpv,Bool.not_eq_true']at h
    exact of_decide_eq_false h
   conv=>cbv
   refine hQ false _ _ _ (decide_eq_false h).symm ?_
   subst hΩ
   exact⟨⟨⟨rfl,rfl,rfl⟩,rfl,trivial⟩,rfl,rfl⟩
  ·intro hc
   have h:a*qq a*(a*qq a)=a:=by
    subst hΩ
    have h:(!decide (pw a (nV ((xs.drop 0).take xs.length))*pw a (nV ((xs.drop 0).take xs.length))=a))=false:=hc
    rw[hpv,Bool.not_eq_false']at h
    exact of_decide_eq_true h
   conv=>cbv
   repeat (constructor;(first|exact fun _=>trivial|exact fun _ _=>(by decide));intro _ _;conv=>cbv)
   refine hQ true _ _ _ (decide_eq_true h).symm ?_
   subst hΩ
   exact⟨⟨congrArg (fun w=>Pay.re (fabs w)) hpv,rfl,trivial⟩,rfl,rfl⟩
def qfA (Ω:Om):qd:=fun args=>match args with
 | [.ab (.re u),.ab (.re v)]=>⟨True,Unit,fun _=>True,fun _ =>.tup [.ab (.re (Ω.hide _ fun _=>qI u v)),.bs (Ω.hide _ fun _=>decide (v*(u*qq (u*v)*(u*qq (u*v)))=u))]⟩
 | _=>PR.none
theorem qqc:Ctr Tryz.prog T glob 94 (qfA Om.real):=by
 refine qo T_ok qf qg (fun Ω=>[(97,qdm Ω),(91,qbr Ω),(184,qfz Ω),(34,qcK Ω)]) [] (fun Ω=>[]) [] (qb qij (qb qcb (qb qqb (qb qfv qh)))) qi qk ql Tryz.func94 (by rfl) (by kernel_rfl) Tryz.call94 ?_ ?_
 ·intro args;unfold qfA;split
  ·exact qt (by repeat' constructor) (fun _ _=>rfl) (by repeat' constructor)
  ·exact PR.good_none
 ·intro P Ω hΩ hE hI hm args pr hs hp Q hQ
  unfold qfA at hs
  split at hs<;>subst hs<;>try (exact hp.elim)
  rename_i u v
  refine⟨1000,?_⟩
  conv=>cbv
  constructor
  ·intro hc
   have hu:u=0:=by
    subst hΩ
    have h:reEq u [0,0,0,0,0,0,0,0,0,0,0,0,0,0,0,0]=true:=hc
    rw[qhj]at h
    exact of_decide_eq_true h
   conv=>cbv
   refine hQ () _ _ _ trivial ?_
   subst hΩ
   subst hu
   have h0:=qut v
   refine⟨⟨⟨rfl,?_⟩,?_,trivial⟩,rfl,rfl⟩
   ·show okRe (qI 0 v) _
    rw[h0.1];exact qoI
   ·exact(decide_eq_true h0.2).symm
  ·intro hc
   have hu:u ≠ 0:=by
    subst hΩ
    have h:reEq u [0,0,0,0,0,0,0,0,0,0,0,0,0,0,0,0]=false:=hc
    rw[qhj]at h
    exact of_decide_eq_false h
   conv=>cbv
   constructor
   ·intro hc2
    have hv:v=0:=by
     subst hΩ
     have h:reEq v [0,0,0,0,0,0,0,0,0,0,0,0,0,0,0,0]=true:=hc2
     rw[qhj]at h
     exact of_decide_eq_true h
    conv=>cbv
    refine hQ () _ _ _ trivial ?_
    subst hΩ
    subst hv
    have h0:=quu hu
    refine⟨⟨⟨rfl,?_⟩,?_,trivial⟩,rfl,rfl⟩
    ·show okRe (qI u 0) _
     rw[h0.1];exact qoI
    ·exact(decide_eq_false h0.2).symm
   ·intro hc2
    have hv:v ≠ 0:=by
     subst hΩ
     have h:reEq v [0,0,0,0,0,0,0,0,0,0,0,0,0,0,0,0]=false:=hc2
     rw[qhj]at h
     exact of_decide_eq_false h
    obtain⟨r1,r2⟩:=qus hu hv
    conv=>cbv
    repeat (constructor;(first|exact fun _=>trivial|exact fun _ _=>(by decide));intro _ _;conv=>cbv)
    rename_i z hz
    have hz:z=decide (u*finv v*qq (u*finv v)*(u*finv v*qq (u*finv v))=u*finv v):=by subst hΩ;exact hz
    cases z with
    | true =>
      have h:=of_decide_eq_true hz.symm
      obtain⟨g1,g2⟩:=r1 h
      conv=>cbv
      refine hQ () _ _ _ trivial ?_
      subst hΩ
      exact⟨⟨congrArg Pay.re g1.symm,(decide_eq_true g2).symm,trivial⟩,rfl,rfl⟩
    | false =>
      have h:=of_decide_eq_false hz.symm
      obtain⟨g1,g2,g3⟩:=r2 h
      conv=>cbv
      repeat (constructor;(first|exact fun _=>trivial|exact fun _ _=>(by decide));intro _ _;conv=>cbv)
      rename_i y hy
      have hy:y=true:=by
        subst hΩ
        have h:y=decide (-(u*finv v)*qq (-(u*finv v))*(-(u*finv v)*qq (-(u*finv v))) = -(u*finv v)):=hy
        rw[h];exact decide_eq_true g2
      subst hy
      conv=>cbv
      refine hQ () _ _ _ trivial ?_
      subst hΩ
      exact⟨⟨congrArg Pay.re g1.symm,(decide_eq_false g3).symm,trivial⟩,rfl,rfl⟩
end Go.Sx.Tryz
end
section
set_option maxHeartbeats 4000000
namespace Go.Sx.Tryz
open Go.Proofs
set_option maxRecDepth 40000
def qxs (Ω:Om):qd:=fun args=>match args with
 | [.int .u8 b]=>⟨∀ _:Unit,qux b,Unit,fun _=>True,fun _ =>.int .i64 (Ω.hide _ fun _=>hd b)⟩
 | _=>PR.none
def qxt (Ω:Om):qd:=fun args=>match args with
 | []=>⟨True,Unit,fun _=>True,fun _ =>.ab (.rp (Ω.hide _ fun _=>pid))⟩
 | _=>PR.none
def qik (Ω:Om):qd:=fun args=>match args with
 | []=>⟨True,Unit,fun _=>True,fun _ =>.ab (.re (Ω.hide _ fun _=>fI (-39081)))⟩
 | _=>PR.none
theorem qw0:Ctr Tryz.prog T glob 194 (qik Om.real):=by
 refine qo T_ok qf qg (fun Ω=>[(90,qcc Ω)]) [] (fun Ω=>[]) [] (qb qd4 qh) qi qk ql Tryz.func194 (by rfl) (by kernel_rfl) Tryz.call194 ?_ ?_
 ·intro args;unfold qik;split
  ·exact qt (by repeat' constructor) (fun _ _=>rfl) (by repeat' constructor)
  ·exact PR.good_none
 ·intro P Ω hΩ hE hI hm args pr hs hp Q hQ
  unfold qik at hs
  split at hs<;>subst hs<;>try (exact hp.elim)
  refine⟨1000,?_⟩
  conv=>cbv
  repeat (constructor;(first|exact fun _=>trivial|exact fun _ _=>(by decide));intro _ _;conv=>cbv)
  refine hQ () _ _ _ trivial ?_
  subst hΩ
  rfl
def qil (Ω:Om):qd:=fun args=>match args with
 | [.ab (.rp P),.ab (.rp Q)]=>⟨True,Unit,fun _=>True,fun _ =>.ab (.rp (Ω.hide _ fun _=>padd P Q))⟩
 | _=>PR.none
theorem qw1:Ctr Tryz.prog T glob 109 (qil Om.real):=by
 refine qap T_ok qf qg (fun Ω=>[(91,qbr Ω),(93,qdl Ω),(92,qd3 Ω),(194,qik Ω)]) [] (fun Ω=>[]) [] (qb qcb (qb qib (qb qkT (qb qw0 qh)))) qi qk ql Tryz.func109 (by rfl) (by kernel_rfl) Tryz.call109 ?_ ?_
 ·intro args;unfold qil;split
  ·exact qt (by repeat' constructor) (fun _ _=>rfl) (by repeat' constructor)
  ·exact PR.good_none
 ·intro P Ω hΩ hE hI hm args pr hs hp cs hcs Q hQ
  unfold qil at hs
  split at hs<;>subst hs<;>try (exact hp.elim)
  rename_i P R
  obtain⟨_,_,rfl,⟨X1,Y1,Z1,rfl,hP,z1,x1,y1⟩,_,_,rfl,⟨X2,Y2,Z2,rfl,hR,z2,x2,y2⟩,rfl⟩:=hcs
  refine⟨1000,?_⟩
  conv=>cbv
  repeat (constructor;(first|exact fun _=>trivial|exact fun _ _=>(by decide));intro _ _;conv=>cbv)
  refine hQ () _ _ _ trivial ?_
  subst hΩ
  have h:=qoJ hP hR z1 x1 y1 z2 x2 y2
  rw[<- fI_d]at h
  exact qmU (qaT hP hR) h.1 h.2.1 h.2.2
def qim (Ω:Om):qd:=fun args=>match args with
 | [.ab (.rp P)]=>⟨True,Unit,fun _=>True,fun _ =>.tup [.ab (.re (Ω.hide _ fun _=>P.x)),.ab (.re (Ω.hide _ fun _=>P.y))]⟩
 | _=>PR.none
theorem qw2:Ctr Tryz.prog T glob 166 (qim Om.real):=by
 refine qap T_ok qf qg (fun Ω=>[(97,qdm Ω),(91,qbr Ω)]) [] (fun Ω=>[]) [] (qb qij (qb qcb qh)) qi qk ql Tryz.func166 (by rfl) (by kernel_rfl) Tryz.call166 ?_ ?_
 ·intro args;unfold qim;split
  ·exact qt (by repeat' constructor) (fun _ _=>rfl) (by repeat' constructor)
  ·exact PR.good_none
 ·intro P Ω hΩ hE hI hm args pr hs hp cs hcs Q hQ
  unfold qim at hs
  split at hs<;>subst hs<;>try (exact hp.elim)
  rename_i P
  obtain⟨_,_,rfl,⟨X,Y,Z,rfl,hP,hz,hx,hy⟩,rfl⟩:=hcs
  refine⟨1000,?_⟩
  conv=>cbv
  repeat (constructor;(first|exact fun _=>trivial|exact fun _ _=>(by decide));intro _ _;conv=>cbv)
  refine hQ () _ _ _ trivial ?_
  subst hΩ
  exact⟨⟨congrArg Pay.re (qgV hz hx),congrArg Pay.re (qgV hz hy),trivial⟩,rfl,rfl⟩
end Go.Sx.Tryz
end
section
set_option maxHeartbeats 4000000
namespace Go.Sx.Tryz
open Go.Proofs
set_option maxRecDepth 40000
def qin (Ω:Om):qd:=fun args=>match args with
 | [.ab (.re x),.ab (.re y),.ab (.re z)]=>⟨True,Unit,fun _=>True,fun _ =>.ab (.re (Ω.hide _ fun _=>x*(y*z)))⟩
 | _=>PR.none
theorem qw3:Ctr Tryz.prog T glob 99 (qin Om.real):=by
 refine qo T_ok qf qg (fun Ω=>[(91,qbr Ω)]) [] (fun Ω=>[]) [] (qb qcb qh) qi qk ql Tryz.func99 (by rfl) (by kernel_rfl) Tryz.call99 ?_ ?_
 ·intro args;unfold qin;split
  ·exact qt (by repeat' constructor) (fun _ _=>rfl) (by repeat' constructor)
  ·exact PR.good_none
 ·intro P Ω hΩ hE hI hm args pr hs hp Q hQ
  unfold qin at hs
  split at hs<;>subst hs<;>try (exact hp.elim)
  refine⟨1000,?_⟩
  conv=>cbv
  repeat (constructor;(first|exact fun _=>trivial|exact fun _ _=>(by decide));intro _ _;conv=>cbv)
  refine hQ () _ _ _ trivial ?_
  subst hΩ
  rfl
def qxu (Ω:Om):qd:=fun args=>match args with
 | [.ab (.re x),.ab (.re y)]=>⟨True,Unit,fun _=>True,fun _ =>.bs (Ω.hide _ fun _=>decide (AP.on ⟨x,y⟩))⟩
 | _=>PR.none
def qio (Ω:Om):qd:=fun args=>match args with
 | [.ab (.re x),.ab (.re y)]=>⟨∀ _:Unit,AP.on ⟨x,y⟩,Unit,fun _=>True,fun _ =>.ab (.rp (Ω.hide _ fun _=>⟨x,y⟩))⟩
 | _=>PR.none
theorem qw4:Ctr Tryz.prog T glob 108 (qio Om.real):=by
 refine qo T_ok qf qg (fun Ω=>[(90,qcc Ω)]) [] (fun Ω=>[]) [] (qb qd4 qh) qi qk ql Tryz.func108 (by rfl) (by kernel_rfl) Tryz.call108 ?_ ?_
 ·intro args;unfold qio;split
  ·exact qt (by repeat' constructor) (fun _ _=>rfl) (by repeat' constructor)
  ·exact PR.good_none
 ·intro P Ω hΩ hE hI hm args pr hs hp Q hQ
  unfold qio at hs
  split at hs<;>subst hs<;>try (exact hp.elim)
  rename_i x y
  have hon:=hp ()
  refine⟨1000,?_⟩
  conv=>cbv
  repeat (constructor;(first|exact fun _=>trivial|exact fun _ _=>(by decide));intro _ _;conv=>cbv)
  refine hQ () _ _ _ trivial ?_
  subst hΩ
  refine qmU hon qnU ?_ ?_
  ·show x=x*fI 1
   rw[qao];grind -lia -linarith -order -ac (splits:=0)
  ·show y=y*fI 1
   rw[qao];grind -lia -linarith -order -ac (splits:=0)
def qip (Ω:Om):qd:=fun args=>match args with
 | []=>⟨True,Unit,fun _=>True,fun _ =>.tup [.ab (.re (Ω.hide _ fun _=>qdb)),.ab (.re (Ω.hide _ fun _=>qdc))]⟩
 | _=>PR.none
theorem qw5:Ctr Tryz.prog T glob 193 (qip Om.real):=by
 refine qo T_ok qf qg (fun Ω=>[(90,qcc Ω),(184,qfz Ω),(97,qdm Ω)]) [] (fun Ω=>[]) [] (qb qd4 (qb qqb (qb qij qh))) qi qk ql Tryz.func193 (by rfl) (by kernel_rfl) Tryz.call193 ?_ ?_
 ·intro args;unfold qip;split
  ·exact qt (by repeat' constructor) (fun _ _=>rfl) (by repeat' constructor)
  ·exact PR.good_none
 ·intro P Ω hΩ hE hI hm args pr hs hp Q hQ
  unfold qip at hs
  split at hs<;>subst hs<;>try (exact hp.elim)
  refine⟨1000,?_⟩
  conv=>cbv
  constructor
  ·exact fun _ _=>(by decide)
  intro _ _
  conv=>cbv
  constructor
  ·exact fun _=>trivial
  intro z hz
  have hz1:z=true:=by
   subst hΩ
   rw[show z=_ from hz]
   exact decide_eq_true (qg1 pw_d)
  subst hz1
  conv=>cbv
  constructor
  ·exact fun _ _=>(by decide)
  intro _ _
  conv=>cbv
  constructor
  ·exact fun _=>trivial
  intro _ _
  conv=>cbv
  constructor
  ·exact fun _=>trivial
  intro z hz
  have hz1:z=true:=by
   subst hΩ
   rw[show z=_ from hz]
   exact decide_eq_true (qg1 pw_e)
  subst hz1
  conv=>cbv
  refine hQ () _ _ _ trivial ?_
  subst hΩ
  exact⟨⟨rfl,rfl,trivial⟩,rfl,rfl⟩
def qiq (Ω:Om):qd:=fun args=>match args with
 | [.ab (.rp P)]=>⟨True,List Int × Nat,fun z=>z.1=qah (encF P)/\z.1.length<=z.2,fun z =>.fr .u8 z.1 z.2⟩
 | _=>PR.none
theorem qw6:Ctr Tryz.prog T glob 107 (qiq Om.real):=by
 refine qo T_ok qf qg (fun Ω=>[(166,qim Ω),(91,qbr Ω),(93,qdl Ω),(92,qd3 Ω),(90,qcc Ω),(99,qin Ω),(94,qfA Ω),(193,qip Ω),(95,qd7 Ω),(33,qfw Ω)]) [] (fun Ω=>[]) [] (qb qw2 (qb qcb (qb qib (qb qkT (qb qd4 (qb qw3 (qb qqc (qb qw5 (qb qkW (qb qp8 qh)))))))))) qi qk ql Tryz.func107 (by rfl) (by kernel_rfl) Tryz.call107 ?_ ?_
 ·intro args;unfold qiq;split
  ·exact qaE ⟨trivial,trivial⟩ fun _=>qa5 _
  ·exact PR.good_none
 ·intro P Ω hΩ hE hI hm args pr hs hp Q hQ
  unfold qiq at hs
  split at hs<;>subst hs<;>try (exact hp.elim)
  rename_i P
  refine⟨1000,?_⟩
  conv=>cbv
  repeat (constructor;(first|exact fun _=>trivial|exact fun _ _=>(by decide));intro _ _;conv=>cbv)
  rename_i w hw
  have hw:w.1=qah (encF P)/\w.1.length<=w.2:=by
   subst hΩ
   rw[<- quy P rfl rfl rfl rfl]
   exact hw
  refine hQ w _ _ _ hw ?_
  subst hΩ
  exact⟨rfl,rfl,by show 0+w.1.length<=w.1.length;omega,List.take_length.symm⟩
end Go.Sx.Tryz
end
section

end
section

end
section

end
