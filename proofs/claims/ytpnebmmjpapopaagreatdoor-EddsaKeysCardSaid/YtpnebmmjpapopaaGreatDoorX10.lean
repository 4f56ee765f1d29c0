/-
  Part of the proof of a statement: the means.
-/
import Derived.Test.YtpnebmmjpapopaaGreatDoorX91
import Derived.Test.YtpnebmmjpapopaaGreatDoorX6
set_option linter.unusedSectionVars false
set_option linter.unusedVariables false
set_option linter.unusedSimpArgs false
set_option linter.deprecated false
section
set_option maxHeartbeats 4000000
namespace Go.Sx.Tryz
open Go.Proofs
set_option maxRecDepth 40000
def qf6 (Ω:Om):qe:=fun args=>match args with
 | [.ab (.re a),.roi .u8 bs]=>⟨∀ _:Unit,bs.length<1152921504606846976/\Byt bs,Unit,fun _=>True,fun _ =>.ab (.re (Ω.hide _ fun _=>pw a (nV bs)))⟩
 | _=>PR.none
theorem qr2:Ctr Tryz.prog T glob 185 (qf6 Om.real):=by
 refine qq T_ok qf qg (fun Ω=>[(90,qco Ω),(91,qc1 Ω),(169,qc2 Ω)]) [] (fun Ω=>[]) [] (qc qf3 (qc qiE (qc qiF qh))) qi qk ql Tryz.func185 (by rfl) (by kernel_rfl) Tryz.call185 ?_ ?_
 ·intro args;unfold qf6;split
  ·exact qo (by repeat' constructor) (fun _ _=>rfl) (by repeat' constructor)
  ·exact PR.good_none
 ·intro P Ω hΩ hE hI hm args pr hs hp Q hQ
  unfold qf6 at hs
  split at hs<;>subst hs<;>try (exact hp.elim)
  rename_i a bs
  obtain⟨hl,hb⟩:=hp ()
  refine⟨1000,?_⟩
  conv=>cbv
  repeat (constructor;(first|exact fun _=>trivial|exact fun _ _=>(by decide));intro _ _;conv=>cbv)
  obtain⟨L8,hL8⟩ : ∃ L8:Nat,L8=8*bs.length:=⟨_,rfl⟩
  obtain⟨i0,hi0⟩ : ∃ i0:Int,i0=(L8:Int)-1:=⟨_,rfl⟩
  have e0:Ω.bin .sub .i64 (Ω.bin .mul .i64 8 (Ω.ofN (Ω.len bs))) 1=i0:=by
   subst hΩ
   show binL .sub .i64 (binL .mul .i64 8 (bs.length:Int)) 1=i0
   rw[qbe (by omega) (by omega),qad (by omega) (by omega)];omega
  have h8:=qfH hb
  obtain⟨one,hone⟩ : ∃ one,one=fI 1:=⟨_,rfl⟩
  refine qn hE hI hm (fun z:Nat × Int × Fp=>(mkT 27 [(1,.roi .u8 bs),(2,.ptr 0 (.l 0)),(4,.ptr 8 (.l 0)),(5,.ptr 24 (.l 0)),(6,.int .i64 z.2.1)],[(24,.ab (.re z.2.2)),(8,.row .i64 16 [0,0,0,0,0,0,0,0,0,0,0,0,0,0,0,0]),(0,.ab (.re a))])) (fun z=>z.1<=L8/\z.2.1=z.1-1/\z.2.2=pw a (nV bs / 2^z.1)) (fun z=>z.1) 0 ⟨(L8,i0,one),[],⟨Nat.le_refl _,hi0,by rw[hone,qlB,Nat.div_eq_of_lt (by show nV bs<2^L8;rw[hL8];exact h8)];rfl⟩,Nat.zero_le _,?_⟩ fun z hz=>⟨1000,?_⟩
  ·conv=>cbv
   subst hΩ
   exact⟨e0,congrArg Pay.re hone.symm,trivial⟩
  obtain⟨n,i,x⟩:=z
  obtain⟨hn,hi,hx⟩:n<=L8/\i=(n:Int)-1/\x=pw a (nV bs / 2^n):=hz
  conv=>cbv
  constructor
  ·intro hc
   have hc':i >= 0:=by rw[hΩ]at hc;exact of_decide_eq_true hc
   obtain⟨m,rfl⟩ : ∃ m:Nat,i=m:=⟨i.toNat,by omega⟩
   have hm1:n=m+1:=by omega
   have hb2:=qcW (nV bs) m
   have hst:pw a (nV bs / 2^m)=if bitN (nV bs) m=1 then x*x*a else x*x:=by
    rw[half_bit,hx,hm1,Nat.mul_comm 2,qdM,qbP]
    have e2:pw (pw a (nV bs / 2^(m+1))) 2=pw a (nV bs / 2^(m+1))*pw a (nV bs / 2^(m+1)):=by
     generalize pw a (nV bs / 2^(m+1))=w
     simp only[pw];grind -lia -linarith -order -ac (splits:=0)
    rw[e2]
    by_cases e:bitN (nV bs) m=1
    ·rw[if_pos e,e,qcJ]
    ·rw[if_neg e,show bitN (nV bs) m=0 by omega]
     generalize pw a (nV bs / 2^(m+1))=w
     simp only[pw];grind -lia -linarith -order -ac (splits:=0)
   have ht:(if (m:Int)<0 then (0:Int) else ((bitN (nV bs) (m:Int).toNat:Nat):Int))=((bitN (nV bs) m:Nat):Int):=by
    rw[if_neg (by omega),Int.toNat_natCast]
   obtain⟨x2,hx2⟩ : ∃ x2,x2=pw a (nV bs / 2^m):=⟨_,rfl⟩
   obtain⟨i2,hi2⟩ : ∃ i2:Int,i2=(m:Int)-1:=⟨_,rfl⟩
   have ei:binL .sub .i64 (m:Int) 1=i2:=by rw[qad (by omega) (by omega),hi2]
   conv=>cbv
   repeat (constructor;(first|exact fun _=>trivial|exact fun _ _=>(by decide));intro _ _;conv=>cbv)
   have hmi : -9223372036854775808<=(m:Int)/\(m:Int)<9223372036854775808:=by omega
   constructor
   ·exact fun _ _=>⟨by omega,hmi,hb⟩
   intro _ _
   conv=>cbv
   constructor
   ·intro hc2
    have hbt:bitN (nV bs) m=1:=by
     subst hΩ
     have h:(if (m:Int)<0 then (0:Int) else ((bitN (nV bs) (m:Int).toNat:Nat):Int))=1:=eq_of_beq hc2
     rw[ht]at h;omega
    rw[if_pos hbt]at hst
    conv=>cbv
    repeat (constructor;(first|exact fun _=>trivial|exact fun _ _=>(by decide));intro _ _;conv=>cbv)
    refine⟨(m,i2,x2),[],⟨by omega,hi2,hx2⟩,by simp only;omega,Nat.zero_le _,?_⟩
    conv=>cbv
    subst hΩ
    exact⟨ei,by rw[hx2,hst];rfl,trivial⟩
   ·intro hc2
    have hbt : ¬ bitN (nV bs) m=1:=by
     subst hΩ
     have h : ¬ (if (m:Int)<0 then (0:Int) else ((bitN (nV bs) (m:Int).toNat:Nat):Int))=1:=ne_of_beq_false hc2
     rw[ht]at h;omega
    rw[if_neg hbt]at hst
    conv=>cbv
    refine⟨(m,i2,x2),[],⟨by omega,hi2,hx2⟩,by simp only;omega,Nat.zero_le _,?_⟩
    conv=>cbv
    subst hΩ
    exact⟨ei,by rw[hx2,hst];rfl,trivial⟩
  ·intro hc
   have hc' : ¬ i >= 0:=by rw[hΩ]at hc;exact of_decide_eq_false hc
   have h0:n=0:=by omega
   conv=>cbv
   refine hQ () _ _ _ trivial ?_
   subst hΩ
   show Pay.re x=Pay.re (pw a (nV bs))
   rw[hx,h0,Nat.pow_zero,Nat.div_one]
def qf7 (Ω:Om):qe:=fun args=>match args with
 | [.ab (.re x)]=>⟨True,Unit,fun _=>True,fun _ =>.bs (Ω.hide _ fun _=>decide (x.val % 2=1))⟩
 | _=>PR.none
theorem qr3:Ctr Tryz.prog T glob 167 (qf7 Om.real):=by
 refine qao T_ok qf qg (fun Ω=>[]) [] (fun Ω=>[]) [] qh qi qk ql Tryz.func167 (by rfl) (by kernel_rfl) Tryz.call167 ?_ ?_
 ·intro args;unfold qf7;split
  ·exact qo (by repeat' constructor) (fun _ _=>rfl) (by repeat' constructor)
  ·exact PR.good_none
 ·intro P Ω hΩ hE hI hm args pr hs hp cs hcs Q hQ
  unfold qf7 at hs
  split at hs<;>subst hs<;>try (exact hp.elim)
  rename_i x
  obtain⟨_,_,rfl,⟨xs,rfl,hx⟩,rfl⟩:=hcs
  have hx:okRe x xs:=hx
  refine⟨1000,?_⟩
  conv=>cbv
  refine hQ () _ _ _ trivial ?_
  subst hΩ
  show(binL .rem .i64 (xs.getD 0 0) 2 == 1)=decide (x.val % 2=1)
  have h0:=hx.2.1 _ (qS (l:=xs) (i:=0) (by rw[hx.1];decide))
  have e:binL .rem .i64 (xs.getD 0 0) 2=xs.getD 0 0 % 2:=Int.tmod_eq_emod_of_nonneg h0.1
  rw[e,qrN hx,Bool.beq_eq_decide_eq]
  apply decide_eq_decide.2
  omega
def qf8 (Ω:Om):qe:=fun args=>match args with
 | [.ab (.re x)]=>⟨True,Unit,fun _=>True,fun _ =>.ab (.re (Ω.hide _ fun _=>finv x))⟩
 | _=>PR.none
theorem qr4:Ctr Tryz.prog T glob 97 (qf8 Om.real):=by
 refine qq T_ok qf qg (fun Ω=>[(187,qf2 Ω),(186,qf5 Ω),(185,qf6 Ω)]) [] (fun Ω=>[]) [] (qc qrY (qc qr1 (qc qr2 qh))) qi qk ql Tryz.func97 (by rfl) (by kernel_rfl) Tryz.call97 ?_ ?_
 ·intro args;unfold qf8;split
  ·exact qo (by repeat' constructor) (fun _ _=>rfl) (by repeat' constructor)
  ·exact PR.good_none
 ·intro P Ω hΩ hE hI hm args pr hs hp Q hQ
  unfold qf8 at hs
  split at hs<;>subst hs<;>try (exact hp.elim)
  rename_i x
  refine⟨1000,?_⟩
  conv=>cbv
  constructor
  ·exact fun _=>trivial
  intro z hz
  have hz:z.1=qbX/\z.1.length<=z.2:=by subst hΩ;exact hz
  have hzb:Byt z.1:=by rw[hz.1];decide
  have hzl:z.1.length=56:=by rw[hz.1];rfl
  conv=>cbv
  have hsub:(z.1.drop 0).take z.1.length=z.1:=by rw[List.drop_zero,List.take_length]
  constructor
  ·exact fun _=>⟨by subst hΩ;show 0+z.1.length<=z.1.length;omega,by show 0+1<=1;decide,trivial⟩
  constructor
  ·intro _ _
   subst hΩ
   show nV [2]<=nV ((z.1.drop 0).take z.1.length)/\(((z.1.drop 0).take z.1.length).length<_/\_)/\Byt ((z.1.drop 0).take z.1.length)/\_
   rw[hsub,hz.1]
   exact⟨by decide +kernel,⟨by decide,by decide⟩,by decide,by decide⟩
  intro y hy
  have hy:nV y.1=nV qbX-nV [2]/\Byt y.1/\y.1.length<=56/\y.1.length<=y.2:=by
   subst hΩ
   have h:nV y.1=nV ((z.1.drop 0).take z.1.length)-nV [2]/\Byt y.1/\y.1.length<=((z.1.drop 0).take z.1.length).length/\y.1.length<=y.2:=hy
   rw[hsub,hz.1]at h
   exact h
  obtain⟨ys,yc⟩:=y
  obtain⟨hy1,hy2,hy3,hy4⟩:nV ys=nV qbX-nV [2]/\Byt ys/\ys.length<=56/\ys.length<=yc:=hy
  have hsub2:(ys.drop 0).take ys.length=ys:=by rw[List.drop_zero,List.take_length]
  conv=>cbv
  constructor
  ·exact fun _=>⟨trivial,by subst hΩ;show 0+ys.length<=ys.length;omega,trivial⟩
  constructor
  ·intro _ _
   subst hΩ
   show((ys.drop 0).take ys.length).length<_/\Byt ((ys.drop 0).take ys.length)
   rw[hsub2]
   exact⟨by omega,hy2⟩
  intro _ _
  conv=>cbv
  refine hQ () _ _ _ trivial ?_
  subst hΩ
  show Pay.re (pw x (nV ((ys.drop 0).take ys.length)))=Pay.re (finv x)
  rw[hsub2,hy1,qrM]
end Go.Sx.Tryz
end
section
set_option maxHeartbeats 4000000
namespace Go.Sx.Tryz
open Go.Proofs
set_option maxRecDepth 40000
def qf9 (Ω:Om):qe:=fun args=>match args with
 | [.int .u8 b]=>⟨∀ _:Unit,qc0 b,Unit,fun _=>True,fun _ =>.int .i64 (Ω.hide _ fun _=>hd b)⟩
 | _=>PR.none
theorem qr5:Ctr Tryz.prog T glob 241 (qf9 Om.real):=by
 refine qq T_ok qf qg (fun Ω=>[]) [] (fun Ω=>[]) [] qh qi qk ql Tryz.func241 (by rfl) (by kernel_rfl) Tryz.call241 ?_ ?_
 ·intro args;unfold qf9;split
  ·exact qo (by repeat' constructor) (fun _ _=>rfl) (by repeat' constructor)
  ·exact PR.good_none
 ·intro P Ω hΩ hE hI hm args pr hs hp Q hQ
  unfold qf9 at hs
  split at hs<;>subst hs<;>try (exact hp.elim)
  rename_i b
  have hb:=hp ()
  refine⟨1000,?_⟩
  conv=>cbv
  constructor
  ·intro hc
   have hc':b >= 97:=by rw[hΩ]at hc;exact of_decide_eq_true hc
   conv=>cbv
   refine hQ () _ _ _ trivial ?_
   subst hΩ
   refine⟨rfl,?_⟩
   show binL .add .i64 (IntKind.i64.wrap (binL .sub .u8 b 97)) 10=hd b
   have e:binL .sub .u8 b 97=b-97:=by
    show IntKind.u8.wrap (b-97)=_
    rw[IntKind.wrap_u8];omega
   rw[e,qal (by omega) (by omega),qF (by omega) (by omega)]
   unfold hd;rw[if_pos (by omega)];omega
  ·intro hc
   have hc' : ¬ b >= 97:=by rw[hΩ]at hc;exact of_decide_eq_false hc
   conv=>cbv
   refine hQ () _ _ _ trivial ?_
   subst hΩ
   refine⟨rfl,?_⟩
   show IntKind.i64.wrap (binL .sub .u8 b 48)=hd b
   have e:binL .sub .u8 b 48=b-48:=by
    show IntKind.u8.wrap (b-48)=_
    rw[IntKind.wrap_u8];omega
   rw[e,qal (by omega) (by omega)]
   unfold hd;rw[if_neg (by omega)]
def qga (Ω:Om):qe:=fun args=>match args with
 | [.val (.string s)]=>⟨∀ _:Unit,s.size=112/\(∀ j,j<112->qc0 ((strB s).getD j 48)),Unit,fun _=>True,fun _ =>.ab (.re (Ω.hide _ fun _=>fI (qK (hexB (strB s)))))⟩
 | _=>PR.none
theorem qr6:Ctr Tryz.prog T glob 170 (qga Om.real):=by
 refine qq T_ok qf qg (fun Ω=>[(241,qf9 Ω),(31,qf1 Ω)]) [] (fun Ω=>[]) [] (qc qr5 (qc qrX qh)) qi qk ql Tryz.func170 (by rfl) (by kernel_rfl) Tryz.call170 ?_ ?_
 ·intro args;unfold qga;split
  ·exact qo (by repeat' constructor) (fun _ _=>rfl) (by repeat' constructor)
  ·exact PR.good_none
 ·intro P Ω hΩ hE hI hm args pr hs hp Q hQ
  unfold qga at hs
  split at hs<;>subst hs<;>try (exact hp.elim)
  rename_i s
  obtain⟨hs,hh⟩:=hp ()
  obtain⟨xs,hxs⟩ : ∃ xs,xs=strB s:=⟨_,rfl⟩
  have hxl:xs.length=112:=by rw[hxs];simpa[strB]using hs
  rw[<- hxs]at hh
  refine⟨1000,?_⟩
  have hx':strB s=xs:=hxs.symm
  conv at hx'=>lhs;cbv
  have hs':s.size=112:=hs
  conv at hs'=>lhs;cbv
  obtain⟨i0,hi0⟩ : ∃ i0:Int,i0=110:=⟨_,rfl⟩
  have hsl:(strB s).length=112:=by rw[<- hxs];exact hxl
  have e0:Ω.bin .sub .i64 (Ω.ofN (Ω.len xs)) 2=i0:=by
   subst hΩ
   show binL .sub .i64 ((xs.length:Nat):Int) 2=i0
   rw[hxl,hi0];rfl
  conv=>cbv
  refine qn hE hI hm (fun z:Nat × Int × List Int × Nat × Nat=>(mkT 29 [(0,.val (.string s)),(2,.ptr 0 (.l 0)),(3,.sl 48 1 (.l 0) (.s z.2.2.2.1) (.s z.2.2.2.2)),(4,.int .i64 z.2.1)],[(48,.seq .u8 z.2.2.1),(0,.row .i64 16 [0,0,0,0,0,0,0,0,0,0,0,0,0,0,0,0])])) (fun z=>z.1<=56/\z.2.1=110-2*z.1/\z.2.2.1=hexT xs z.1/\z.2.2.2.1=z.1/\z.2.2.2.1<=z.2.2.2.2) (fun z=>56-z.1) 1 ⟨(0,i0,[],0,0),[none],⟨Nat.zero_le _,hi0,rfl,rfl,Nat.le_refl _⟩,by decide,?_⟩ fun z hz=>⟨1000,?_⟩
  ·conv=>cbv
   rw[hx']
   exact⟨e0,trivial⟩
  obtain⟨j,i,u,n,c⟩:=z
  obtain⟨hj,hi,hu,hn,hc⟩:j<=56/\i=110-2*(j:Int)/\u=hexT xs j/\n=j/\n<=c:=hz
  have hul:u.length=n:=by rw[hu,hexT_len,hn]
  conv=>cbv
  constructor
  ·intro hc2
   have hc':i >= 0:=by rw[hΩ]at hc2;exact of_decide_eq_true hc2
   have g1:=hh (111-2*j) (by omega)
   have g2:=hh (110-2*j) (by omega)
   have hit:i.toNat=110-2*j:=by omega
   have hii:i<112:=by omega
   have ei1:binL .add .i64 i 1=i+1:=qF (by omega) (by omega)
   have hd1:xs.getD i.toNat 0=xs.getD (110-2*j) 48:=by
    rw[hit];simp[List.getD,show 110-2*j<xs.length by omega]
   have hd2:xs.getD (i+1).toNat 0=xs.getD (111-2*j) 48:=by
    rw[show(i+1).toNat=111-2*j by omega];simp[List.getD,show 111-2*j<xs.length by omega]
   obtain⟨u2,hu2⟩ : ∃ u2,u2=hexT xs (j+1):=⟨_,rfl⟩
   obtain⟨i2,hi2⟩ : ∃ i2:Int,i2=110-2*((j+1:Nat):Int):=⟨_,rfl⟩
   conv=>cbv
   rw[hx',hs']
   constructor
   ·exact fun _=>⟨hc',hii⟩
   constructor
   ·intro _ _
    subst hΩ
    show qc0 (xs.getD i.toNat 0)
    rw[hd1];exact g2
   intro _ _
   conv=>cbv
   rw[hx',hs']
   constructor
   ·intro _;subst hΩ;show 0<=binL .add .i64 i 1/\binL .add .i64 i 1<112;rw[ei1];omega
   constructor
   ·intro _ _
    subst hΩ
    show qc0 (xs.getD (binL .add .i64 i 1).toNat 0)
    rw[ei1,hd2];exact g1
   intro _ _
   conv=>cbv
   constructor
   ·exact fun _=>(show(n+1)*1<=140737488355328 by omega)
   constructor
   ·exact fun _=>⟨(show 0+n*1<=u.length by omega),(show 0+1*1<=1 by omega)⟩
   intro cap hcap
   have hcap:n+1<=cap:=hcap
   conv=>cbv
   obtain⟨n2,hn2⟩ : ∃ n2,n2=n+1:=⟨_,rfl⟩
   refine⟨(j+1,i2,u2,n2,cap),[some 184],⟨by omega,hi2,hu2,(by show n2=j+1;omega),(by show n2<=cap;omega)⟩,by simp only;omega,by decide,?_⟩
   conv=>cbv
   subst hΩ
   have r1:=hd_rng g1
   have r2:=hd_rng g2
   refine⟨hn2.symm,?_,?_,trivial⟩
   ·show binL .sub .i64 i 2=i2
    rw[qad (by omega) (by omega),hi2,hi];omega
   ·show(u.drop 0).take n++[IntKind.u8.wrap (binL .add .i64 (binL .mul .i64 16 (hd (xs.getD i.toNat 0))) (hd (xs.getD (binL .add .i64 i 1).toNat 0)))]=u2
    rw[ei1,hd1,hd2,qbe (by omega) (by omega),qF (by omega) (by omega),List.drop_zero,List.take_of_length_le (by omega),hu2,hexT_succ,hu,IntKind.wrap_u8]
    congr 2
    omega
  ·intro hc2
   have hc' : ¬ i >= 0:=by rw[hΩ]at hc2;exact of_decide_eq_false hc2
   have h56:j=56:=by omega
   have hub:u.length=56/\Byt u:=by
    refine⟨by omega,?_⟩
    rw[hu]
    intro a ha
    obtain⟨t,ht,rfl⟩:=List.mem_map.1 ha
    rw[List.mem_range]at ht
    have:=hd_rng (hh (111-2*t) (by omega))
    have:=hd_rng (hh (110-2*t) (by omega))
    omega
   conv=>cbv
   constructor
   ·intro _ ; subst hΩ;exact⟨by show 0+n<=u.length;omega,trivial⟩
   constructor
   ·intro _ _
    subst hΩ
    show((u.drop 0).take n).length=56/\Byt ((u.drop 0).take n)
    rw[List.drop_zero,List.take_of_length_le (by omega)]
    exact hub
   intro _ _
   conv=>cbv
   refine hQ () _ _ _ trivial ?_
   subst hΩ
   show Pay.re (fI (qK ((u.drop 0).take n)))=Pay.re (fI (qK (hexB (strB s))))
   rw[List.drop_zero,List.take_of_length_le (by omega),hu,hxs,h56]
   rfl
def qgb (Ω:Om):qe:=fun args=>match args with
 | []=>⟨True,Unit,fun _=>True,fun _ =>.ab (.rp (Ω.hide _ fun _=>pid))⟩
 | _=>PR.none
theorem qr7:Ctr Tryz.prog T glob 149 (qgb Om.real):=by
 refine qq T_ok qf qg (fun Ω=>[(90,qco Ω)]) [] (fun Ω=>[]) [] (qc qf3 qh) qi qk ql Tryz.func149 (by rfl) (by kernel_rfl) Tryz.call149 ?_ ?_
 ·intro args;unfold qgb;split
  ·exact qo (by repeat' constructor) (fun _ _=>rfl) (by repeat' constructor)
  ·exact PR.good_none
 ·intro P Ω hΩ hE hI hm args pr hs hp Q hQ
  unfold qgb at hs
  split at hs<;>subst hs<;>try (exact hp.elim)
  refine⟨1000,?_⟩
  conv=>cbv
  repeat (constructor;(first|exact fun _=>trivial|exact fun _ _=>(by decide));intro _ _;conv=>cbv)
  refine hQ () _ _ _ trivial ?_
  subst hΩ
  exact qrQ qrL qih qii (by decide +kernel) (by decide +kernel)
def qgc (Ω:Om):qe:=fun args=>match args with
 | []=>⟨True,Unit,fun _=>True,fun _ =>.ab (.re (Ω.hide _ fun _=>fI (-39081)))⟩
 | _=>PR.none
theorem qr8:Ctr Tryz.prog T glob 194 (qgc Om.real):=by
 refine qq T_ok qf qg (fun Ω=>[(90,qco Ω)]) [] (fun Ω=>[]) [] (qc qf3 qh) qi qk ql Tryz.func194 (by rfl) (by kernel_rfl) Tryz.call194 ?_ ?_
 ·intro args;unfold qgc;split
  ·exact qo (by repeat' constructor) (fun _ _=>rfl) (by repeat' constructor)
  ·exact PR.good_none
 ·intro P Ω hΩ hE hI hm args pr hs hp Q hQ
  unfold qgc at hs
  split at hs<;>subst hs<;>try (exact hp.elim)
  refine⟨1000,?_⟩
  conv=>cbv
  repeat (constructor;(first|exact fun _=>trivial|exact fun _ _=>(by decide));intro _ _;conv=>cbv)
  refine hQ () _ _ _ trivial ?_
  subst hΩ
  rfl
def qgd (Ω:Om):qe:=fun args=>match args with
 | [.ab (.rp P),.ab (.rp Q)]=>⟨True,Unit,fun _=>True,fun _ =>.ab (.rp (Ω.hide _ fun _=>padd P Q))⟩
 | _=>PR.none
theorem qr9:Ctr Tryz.prog T glob 109 (qgd Om.real):=by
 refine qao T_ok qf qg (fun Ω=>[(91,qc1 Ω),(93,qee Ω),(92,qf0 Ω),(194,qgc Ω)]) [] (fun Ω=>[]) [] (qc qiE (qc qmE (qc qrW (qc qr8 qh)))) qi qk ql Tryz.func109 (by rfl) (by kernel_rfl) Tryz.call109 ?_ ?_
 ·intro args;unfold qgd;split
  ·exact qo (by repeat' constructor) (fun _ _=>rfl) (by repeat' constructor)
  ·exact PR.good_none
 ·intro P Ω hΩ hE hI hm args pr hs hp cs hcs Q hQ
  unfold qgd at hs
  split at hs<;>subst hs<;>try (exact hp.elim)
  rename_i P R
  obtain⟨_,_,rfl,⟨X1,Y1,Z1,rfl,hP,z1,x1,y1⟩,_,_,rfl,⟨X2,Y2,Z2,rfl,hR,z2,x2,y2⟩,rfl⟩:=hcs
  refine⟨1000,?_⟩
  conv=>cbv
  repeat (constructor;(first|exact fun _=>trivial|exact fun _ _=>(by decide));intro _ _;conv=>cbv)
  refine hQ () _ _ _ trivial ?_
  subst hΩ
  have h:=qrP hP hR z1 x1 y1 z2 x2 y2
  rw[<- fI_d]at h
  exact qk5 (qcS hP hR) h.1 h.2.1 h.2.2
def qge (Ω:Om):qe:=fun args=>match args with
 | [.ab (.rp P)]=>⟨True,Unit,fun _=>True,fun _ =>.tup [.ab (.re (Ω.hide _ fun _=>P.x)),.ab (.re (Ω.hide _ fun _=>P.y))]⟩
 | _=>PR.none
theorem qsa:Ctr Tryz.prog T glob 166 (qge Om.real):=by
 refine qao T_ok qf qg (fun Ω=>[(97,qf8 Ω),(91,qc1 Ω)]) [] (fun Ω=>[]) [] (qc qr4 (qc qiE qh)) qi qk ql Tryz.func166 (by rfl) (by kernel_rfl) Tryz.call166 ?_ ?_
 ·intro args;unfold qge;split
  ·exact qo (by repeat' constructor) (fun _ _=>rfl) (by repeat' constructor)
  ·exact PR.good_none
 ·intro P Ω hΩ hE hI hm args pr hs hp cs hcs Q hQ
  unfold qge at hs
  split at hs<;>subst hs<;>try (exact hp.elim)
  rename_i P
  obtain⟨_,_,rfl,⟨X,Y,Z,rfl,hP,hz,hx,hy⟩,rfl⟩:=hcs
  refine⟨1000,?_⟩
  conv=>cbv
  repeat (constructor;(first|exact fun _=>trivial|exact fun _ _=>(by decide));intro _ _;conv=>cbv)
  refine hQ () _ _ _ trivial ?_
  subst hΩ
  exact⟨⟨congrArg Pay.re (qfB hz hx),congrArg Pay.re (qfB hz hy),trivial⟩,rfl,rfl⟩
def qgf (Ω:Om):qe:=fun args=>match args with
 | [.roi .u8 bs,.ab (.rp P)]=>⟨∀ _:Unit,P.on/\bs.length<1152921504606846976/\Byt bs,Unit,fun _=>True,fun _ =>.ab (.rp (Ω.hide _ fun _=>nsm (nV bs) P))⟩
 | _=>PR.none
theorem qsb:Ctr Tryz.prog T glob 73 (qgf Om.real):=by
 refine qq T_ok qf qg (fun Ω=>[(149,qgb Ω),(168,qf4 Ω),(169,qc2 Ω),(109,qgd Ω)]) [] (fun Ω=>[]) [] (qc qr7 (qc qrZ (qc qiF (qc qr9 qh)))) qi qk ql Tryz.func73 (by rfl) (by kernel_rfl) Tryz.call73 ?_ ?_
 ·intro args;unfold qgf;split
  ·exact qo (by repeat' constructor) (fun _ _=>rfl) (by repeat' constructor)
  ·exact PR.good_none
 ·intro P Ω hΩ hE hI hm args pr hs hp Q hQ
  unfold qgf at hs
  split at hs<;>subst hs<;>try (exact hp.elim)
  rename_i bs P
  obtain⟨hP,hl,hb⟩:=hp ()
  refine⟨1000,?_⟩
  conv=>cbv
  constructor;(first|exact fun _=>trivial|exact fun _ _=>(by decide));intro _ _;conv=>cbv
  constructor
  ·exact fun _ _=>⟨by omega,hb⟩
  intro (z:Nat) hz
  obtain⟨⟨hz1,_⟩,hz2⟩:qiy (nV bs) z/\z<=8*bs.length:=hz
  obtain⟨i0,hi0⟩ : ∃ i0:Int,i0=(z:Int)-1:=⟨_,rfl⟩
  have e0:Ω.bin .sub .i64 (z:Int) 1=i0:=by
   subst hΩ
   show binL .sub .i64 (z:Int) 1=i0
   rw[qad (by omega) (by omega),hi0]
  obtain⟨O,hO⟩ : ∃ O,O=pid:=⟨_,rfl⟩
  conv=>cbv
  refine qn hE hI hm (fun y:Nat × Int × AP=>(mkT 26 [(0,.roi .u8 bs),(3,.ptr 0 (.l 0)),(4,.ptr 8 (.l 0)),(5,.ptr 24 (.l 0)),(6,.int .i64 y.2.1)],[(24,.ab (.rp y.2.2)),(8,.agg [.row .i64 16 [0,0,0,0,0,0,0,0,0,0,0,0,0,0,0,0],.row .i64 16 [0,0,0,0,0,0,0,0,0,0,0,0,0,0,0,0],.row .i64 16 [0,0,0,0,0,0,0,0,0,0,0,0,0,0,0,0]]),(0,.ab (.rp P))])) (fun y=>y.1<=z/\y.2.1=y.1-1/\y.2.2=nsm (nV bs / 2^y.1) P) (fun y=>y.1) 0 ⟨(z,i0,O),[],⟨Nat.le_refl _,hi0,by rw[hO,Nat.div_eq_of_lt (by show nV bs<2^z;exact hz1)];rfl⟩,Nat.zero_le _,?_⟩ fun y hy=>⟨1000,?_⟩
  ·conv=>cbv
   subst hΩ
   exact⟨e0,congrArg Pay.rp hO.symm,trivial⟩
  obtain⟨n,i,X⟩:=y
  obtain⟨hn,hi,hX⟩:n<=z/\i=(n:Int)-1/\X=nsm (nV bs / 2^n) P:=hy
  conv=>cbv
  constructor
  ·intro hc
   have hc':i >= 0:=by rw[hΩ]at hc;exact of_decide_eq_true hc
   obtain⟨m,rfl⟩ : ∃ m:Nat,i=m:=⟨i.toNat,by omega⟩
   have hm1:n=m+1:=by omega
   have hb2:=qcW (nV bs) m
   have hst:nsm (nV bs / 2^m) P=if bitN (nV bs) m=1 then padd (padd X X) P else padd X X:=by
    rw[half_bit,hX,hm1]
    exact qrO hP _ _ hb2
   have ht:(if (m:Int)<0 then (0:Int) else ((bitN (nV bs) (m:Int).toNat:Nat):Int))=((bitN (nV bs) m:Nat):Int):=by
    rw[if_neg (by omega),Int.toNat_natCast]
   obtain⟨x2,hx2⟩ : ∃ x2,x2=nsm (nV bs / 2^m) P:=⟨_,rfl⟩
   obtain⟨i2,hi2⟩ : ∃ i2:Int,i2=(m:Int)-1:=⟨_,rfl⟩
   have ei:binL .sub .i64 (m:Int) 1=i2:=by rw[qad (by omega) (by omega),hi2]
   have hmi : -9223372036854775808<=(m:Int)/\(m:Int)<9223372036854775808:=by omega
   conv=>cbv
   constructor;(first|exact fun _=>trivial|exact fun _ _=>(by decide));intro _ _;conv=>cbv
   constructor
   ·exact fun _ _=>⟨by omega,hmi,hb⟩
   intro _ _
   conv=>cbv
   constructor
   ·intro hc2
    have hbt:bitN (nV bs) m=1:=by
     subst hΩ
     have h:(if (m:Int)<0 then (0:Int) else ((bitN (nV bs) (m:Int).toNat:Nat):Int))=1:=eq_of_beq hc2
     rw[ht]at h;omega
    rw[if_pos hbt]at hst
    conv=>cbv
    constructor;(first|exact fun _=>trivial|exact fun _ _=>(by decide));intro _ _;conv=>cbv
    refine⟨(m,i2,x2),[],⟨by omega,hi2,hx2⟩,by simp only;omega,Nat.zero_le _,?_⟩
    conv=>cbv
    subst hΩ
    exact⟨ei,by rw[hx2,hst];rfl,trivial⟩
   ·intro hc2
    have hbt : ¬ bitN (nV bs) m=1:=by
     subst hΩ
     have h : ¬ (if (m:Int)<0 then (0:Int) else ((bitN (nV bs) (m:Int).toNat:Nat):Int))=1:=ne_of_beq_false hc2
     rw[ht]at h;omega
    rw[if_neg hbt]at hst
    conv=>cbv
    refine⟨(m,i2,x2),[],⟨by omega,hi2,hx2⟩,by simp only;omega,Nat.zero_le _,?_⟩
    conv=>cbv
    subst hΩ
    exact⟨ei,by rw[hx2,hst];rfl,trivial⟩
  ·intro hc
   have hc' : ¬ i >= 0:=by rw[hΩ]at hc;exact of_decide_eq_false hc
   have h0:n=0:=by omega
   conv=>cbv
   refine hQ () _ _ _ trivial ?_
   subst hΩ
   show Pay.rp X=Pay.rp (nsm (nV bs) P)
   rw[hX,h0,Nat.pow_zero,Nat.div_one]
def qgg (Ω:Om):qe:=fun args=>match args with
 | [.ab (.rp P)]=>⟨True,List Int × Nat,fun z=>z.1=codB P/\z.1.length<=z.2,fun z =>.fr .u8 z.1 z.2⟩
 | _=>PR.none
theorem qsc:Ctr Tryz.prog T glob 72 (qgg Om.real):=by
 refine qq T_ok qf qg (fun Ω=>[(166,qge Ω),(167,qf7 Ω),(33,qeg Ω)]) [] (fun Ω=>[]) [] (qc qsa (qc qr3 (qc qmG qh))) qi qk ql Tryz.func72 (by rfl) (by kernel_rfl) Tryz.call72 ?_ ?_
 ·intro args;unfold qgg;split
  ·exact qav ⟨trivial,trivial⟩ fun _=>qaM _
  ·exact PR.good_none
 ·intro P Ω hΩ hE hI hm args pr hs hp Q hQ
  unfold qgg at hs
  split at hs<;>subst hs<;>try (exact hp.elim)
  rename_i P
  refine⟨1000,?_⟩
  conv=>cbv
  constructor;(first|exact fun _=>trivial|exact fun _ _=>(by decide));intro _ _;conv=>cbv
  constructor;(first|exact fun _=>trivial|exact fun _ _=>(by decide));intro _ _;conv=>cbv
  constructor
  ·intro hc
   have hx:P.x.val % 2=1:=by subst hΩ;exact of_decide_eq_true hc
   conv=>cbv
   constructor
   ·exact fun _=>trivial
   intro z hz
   have hz:z.1=qap P.y/\z.1.length<=z.2:=by subst hΩ;exact hz
   have hzl:z.1.length=56:=by rw[hz.1,qdZ]
   conv=>cbv
   constructor
   ·intro _;subst hΩ;show(z.1.length+1)*1<=_;omega
   constructor
   ·exact fun _=>⟨by subst hΩ;show 0+z.1.length*1<=z.1.length;omega,(show 0+1*1<=1 by omega)⟩
   intro cap hcap
   have hcap:z.1.length+1<=cap:=by subst hΩ;exact hcap
   obtain⟨y,hy⟩ : ∃ y,y=codB P:=⟨_,rfl⟩
   have hyl:y.length=57:=by rw[hy,qaR]
   conv=>cbv
   refine hQ (y,cap) _ _ _ ⟨hy,by show y.length<=cap;omega⟩ ?_
   subst hΩ
   refine⟨rfl,rfl,?_,?_⟩
   ·show 0+(z.1.length+1)<=((z.1.drop 0).take z.1.length++[128]).length
    rw[List.drop_zero,List.take_length,List.length_append];simp
   ·show y=(((z.1.drop 0).take z.1.length++[128]).drop 0).take (z.1.length+1)
    rw[List.drop_zero,List.drop_zero,List.take_length,List.take_of_length_le (by rw[List.length_append];simp),hy,hz.1]
    unfold codB
    rw[if_pos hx]
  ·intro hc
   have hx : ¬ P.x.val % 2=1:=by subst hΩ;exact of_decide_eq_false hc
   conv=>cbv
   constructor
   ·exact fun _=>trivial
   intro z hz
   have hz:z.1=qap P.y/\z.1.length<=z.2:=by subst hΩ;exact hz
   have hzl:z.1.length=56:=by rw[hz.1,qdZ]
   conv=>cbv
   constructor
   ·intro _;subst hΩ;show(z.1.length+1)*1<=_;omega
   constructor
   ·exact fun _=>⟨by subst hΩ;show 0+z.1.length*1<=z.1.length;omega,(show 0+1*1<=1 by omega)⟩
   intro cap hcap
   have hcap:z.1.length+1<=cap:=by subst hΩ;exact hcap
   obtain⟨y,hy⟩ : ∃ y,y=codB P:=⟨_,rfl⟩
   have hyl:y.length=57:=by rw[hy,qaR]
   conv=>cbv
   refine hQ (y,cap) _ _ _ ⟨hy,by show y.length<=cap;omega⟩ ?_
   subst hΩ
   refine⟨rfl,rfl,?_,?_⟩
   ·show 0+(z.1.length+1)<=((z.1.drop 0).take z.1.length++[0]).length
    rw[List.drop_zero,List.take_length,List.length_append];simp
   ·show y=(((z.1.drop 0).take z.1.length++[0]).drop 0).take (z.1.length+1)
    rw[List.drop_zero,List.drop_zero,List.take_length,List.take_of_length_le (by rw[List.length_append];simp),hy,hz.1]
    unfold codB
    rw[if_neg hx]
end Go.Sx.Tryz
end
section

end
section

end
section
set_option maxHeartbeats 4000000
namespace Go.Sx.Tryz
open Go.Proofs
set_option maxRecDepth 40000
def qgE (Ω:Om):qe:=fun args=>match args with
 | [.val (.string s)]=>⟨∀ _:Unit,s.size=112/\(∀ j,j<112->qc0 ((strB s).getD j 48)),Unit,fun _=>True,fun _ =>.ab (.fe (Ω.hide _ fun _=>fI (qK (hexB (strB s)))))⟩
 | _=>PR.none
theorem qte:Ctr Tryz.prog T glob 148 (qgE Om.real):=by
 refine qq T_ok qf qg (fun Ω=>[(75,qfx Ω)]) [] (fun Ω=>[]) [] (qc qqk qh) qi qk ql Tryz.func148 (by rfl) (by kernel_rfl) Tryz.call148 ?_ ?_
 ·intro args;unfold qgE;split
  ·exact qo (by repeat' constructor) (fun _ _=>rfl) (by repeat' constructor)
  ·exact PR.good_none
 ·intro P Ω hΩ hE hI hm args pr hs hp Q hQ
  unfold qgE at hs
  split at hs<;>subst hs<;>try (exact hp.elim)
  rename_i s
  obtain⟨hs,hh⟩:=hp ()
  obtain⟨xs,hxs⟩ : ∃ xs,xs=strB s:=⟨_,rfl⟩
  have hxl:xs.length=112:=by rw[hxs];simpa[strB]using hs
  rw[<- hxs]at hh
  have hx':strB s=xs:=hxs.symm
  conv at hx'=>lhs;cbv
  have hs':s.size=112:=hs
  conv at hs'=>lhs;cbv
  refine⟨1000,?_⟩
  conv=>cbv
  rw[hx']
  obtain⟨v0,hv0⟩ : ∃ v0,v0=hexE xs 0:=⟨_,rfl⟩
  have ev0:[0,0,0,0,0,0,0,0,0,0,0,0,0,0,0,0,0,0,0,0,0,0,0,0,0,0,0,0,0,0,0,0,0,0,0,0,0,0,0,0,0,0,0,0,0,0,0,0,0,0,0,0,0,0,0,0]=v0:=by rw[hv0,hexE_zero];rfl
  refine qn hE hI hm (fun z:Nat × List Int=>(mkT 50 [(0,.val (.string s)),(2,.ptr 0 (.l 0)),(3,.ptr 8 (.l 0)),(10,.int .i64 (Ω.ofN (Ω.len xs))),(11,.int .i64 z.1)],[(8,.row .u8 56 z.2),(0,.agg [.row .u64 8 [0,0,0,0,0,0,0,0]])])) (fun z=>z.1<=112/\z.2=hexE xs z.1) (fun z=>112-z.1) 0 ⟨(0,v0),[],⟨Nat.zero_le _,hv0⟩,by decide,?_⟩ fun z hz=>⟨1000,?_⟩
  ·conv=>cbv
   exact⟨rfl,ev0,trivial⟩
  obtain⟨i,v⟩:=z
  obtain⟨hi,hv⟩:i<=112/\v=hexE xs i:=hz
  have hvl:v.length=56:=by rw[hv,hexE_len]
  conv=>cbv
  constructor
  ·intro hc
   have hc':i<112:=by
    rw[hΩ]at hc
    have h:(i:Int)<((xs.length:Nat):Int):=of_decide_eq_true hc
    omega
   have gi:=hh (111-i) (by omega)
   have ei:binL .sub .i64 (binL .sub .i64 (xs.length:Int) 1) (i:Int)=111-i:=by
    rw[hxl,qad (a:=((112:Nat):Int)) (b:=1) (by omega) (by omega),qad (by omega) (by omega)];omega
   have gd:xs.getD (111-(i:Int)).toNat 0=xs.getD (111-i) 48:=by
    rw[show(111-(i:Int)).toNat=111-i by omega];simp[List.getD,show 111-i<xs.length by omega]
   conv=>cbv
   rw[hx',hs']
   have eq:binL .quo .i64 (i:Int) 2=((i / 2:Nat):Int):=by
    rw[qbW (by rw[Int.tdiv_eq_ediv_of_nonneg (by omega)];omega) (by rw[Int.tdiv_eq_ediv_of_nonneg (by omega)];omega),Int.tdiv_eq_ediv_of_nonneg (by omega)];omega
   have er:binL .rem .i64 (i:Int) 2=((i % 2:Nat):Int):=by
    have:binL .rem .i64 (i:Int) 2=(i:Int) % 2:=Int.tmod_eq_emod_of_nonneg (a:=(i:Int)) (b:=2) (Int.natCast_nonneg i)
    rw[this];omega
   constructor
   ·intro _
    subst hΩ
    show 0<=binL .sub .i64 (binL .sub .i64 (xs.length:Int) 1) (i:Int)/\binL .sub .i64 (binL .sub .i64 (xs.length:Int) 1) (i:Int)<112
    rw[ei];omega
   constructor
   ·intro hc2
    have hx:97<=xs.getD (111-i) 48:=by
     subst hΩ
     have h:xs.getD (binL .sub .i64 (binL .sub .i64 (xs.length:Int) 1) (i:Int)).toNat 0 >= 97:=of_decide_eq_true hc2
     rw[ei,gd]at h;exact h
    have en:binL .add .u8 (binL .sub .u8 (xs.getD (binL .sub .i64 (binL .sub .i64 (xs.length:Int) 1) (i:Int)).toNat 0) 97) 10=hd (xs.getD (111-i) 48):=by
      rw[ei,gd]
      show IntKind.u8.wrap (IntKind.u8.wrap (xs.getD (111-i) 48-97)+10)=_
      rw[IntKind.wrap_u8,IntKind.wrap_u8];unfold hd;rw[if_pos hx];omega
    conv=>cbv
    constructor
    ·intro hc3
     have hev:i % 2=0:=by
      subst hΩ
      have h:binL .rem .i64 (i:Int) 2=0:=eq_of_beq hc3
      rw[er]at h;omega
     obtain⟨k,hk⟩ : ∃ k,i=2*k:=⟨i / 2,by omega⟩
     have hst:=hexE_even xs (k:=k) (by omega)
     obtain⟨v2,hv2⟩ : ∃ v2,v2=hexE xs (i+1):=⟨_,rfl⟩
     have ev2:v.set (binL .quo .i64 (i:Int) 2).toNat (binL .add .u8 (binL .sub .u8 (xs.getD (binL .sub .i64 (binL .sub .i64 (xs.length:Int) 1) (i:Int)).toNat 0) 97) 10)=v2:=by
      rw[eq,en,hv2,hv,Int.toNat_natCast,hk,show 2*k / 2=k by omega,hst]
     have hq:0<=binL .quo .i64 (i:Int) 2/\binL .quo .i64 (i:Int) 2<56:=by rw[eq];omega
     have hq2:(binL .quo .i64 (i:Int) 2).toNat<56:=by rw[eq];omega
     conv=>cbv
     constructor
     ·intro _;subst hΩ;exact hq
     constructor
     ·intro _;subst hΩ;exact hq2
     refine⟨(i+1,v2),[],⟨by omega,hv2⟩,by simp only;omega,Nat.zero_le _,?_⟩
     conv=>cbv
     subst hΩ
     refine⟨?_,ev2,trivial⟩
     show binL .add .i64 (i:Int) 1=((i+1:Nat):Int)
     rw[qF (by omega) (by omega)];omega
    ·intro hc3
     have hev : ¬ i % 2=0:=by
      subst hΩ
      have h : ¬ binL .rem .i64 (i:Int) 2=0:=ne_of_beq_false hc3
      rw[er]at h;omega
     obtain⟨k,hk⟩ : ∃ k,i=2*k+1:=⟨i / 2,by omega⟩
     have hst:=hexE_odd xs (k:=k) (by omega)
     have hg0:=hexE_get xs (2*k+1) k (by omega)
     rw[if_neg (by omega),if_pos (by omega)]at hg0
     have hr1:=hd_rng (hh (111-2*k) (by omega))
     have hr2:=hd_rng gi
     obtain⟨v2,hv2⟩ : ∃ v2,v2=hexE xs (i+1):=⟨_,rfl⟩
     have ev2:v.set (binL .quo .i64 (i:Int) 2).toNat (binL .or .u8 (v.getD (binL .quo .i64 (i:Int) 2).toNat 0) (binL .mul .u8 (binL .add .u8 (binL .sub .u8 (xs.getD (binL .sub .i64 (binL .sub .i64 (xs.length:Int) 1) (i:Int)).toNat 0) 97) 10) 16))=v2:=by
      rw[eq,en,hv2,hv,Int.toNat_natCast,hk,show(2*k+1) / 2=k by omega,show 2*k+1+1=2*k+2 by omega,hst,hg0,show 111-(2*k+1)=110-2*k by omega,qmC hr1 (by rw[show 110-2*k=111-i by omega];exact hr2)]
     have hq:0<=binL .quo .i64 (i:Int) 2/\binL .quo .i64 (i:Int) 2<56:=by rw[eq];omega
     have hq2:(binL .quo .i64 (i:Int) 2).toNat<56:=by rw[eq];omega
     conv=>cbv
     constructor
     ·intro _;subst hΩ;exact hq
     constructor
     ·intro _;subst hΩ;exact hq2
     constructor
     ·intro _;subst hΩ;exact hq
     constructor
     ·intro _;subst hΩ;exact hq2
     refine⟨(i+1,v2),[],⟨by omega,hv2⟩,by simp only;omega,Nat.zero_le _,?_⟩
     conv=>cbv
     subst hΩ
     refine⟨?_,ev2,trivial⟩
     show binL .add .i64 (i:Int) 1=((i+1:Nat):Int)
     rw[qF (by omega) (by omega)];omega
   ·intro hc2
    have hx : ¬ 97<=xs.getD (111-i) 48:=by
     subst hΩ
     have h : ¬ xs.getD (binL .sub .i64 (binL .sub .i64 (xs.length:Int) 1) (i:Int)).toNat 0 >= 97:=of_decide_eq_false hc2
     rw[ei,gd]at h;exact h
    have en:binL .sub .u8 (xs.getD (binL .sub .i64 (binL .sub .i64 (xs.length:Int) 1) (i:Int)).toNat 0) 48=hd (xs.getD (111-i) 48):=by
      rw[ei,gd]
      show IntKind.u8.wrap (xs.getD (111-i) 48-48)=_
      rw[IntKind.wrap_u8];unfold hd;rw[if_neg hx];omega
    conv=>cbv
    constructor
    ·intro hc3
     have hev:i % 2=0:=by
      subst hΩ
      have h:binL .rem .i64 (i:Int) 2=0:=eq_of_beq hc3
      rw[er]at h;omega
     obtain⟨k,hk⟩ : ∃ k,i=2*k:=⟨i / 2,by omega⟩
     have hst:=hexE_even xs (k:=k) (by omega)
     obtain⟨v2,hv2⟩ : ∃ v2,v2=hexE xs (i+1):=⟨_,rfl⟩
     have ev2:v.set (binL .quo .i64 (i:Int) 2).toNat (binL .sub .u8 (xs.getD (binL .sub .i64 (binL .sub .i64 (xs.length:Int) 1) (i:Int)).toNat 0) 48)=v2:=by
      rw[eq,en,hv2,hv,Int.toNat_natCast,hk,show 2*k / 2=k by omega,hst]
     have hq:0<=binL .quo .i64 (i:Int) 2/\binL .quo .i64 (i:Int) 2<56:=by rw[eq];omega
     have hq2:(binL .quo .i64 (i:Int) 2).toNat<56:=by rw[eq];omega
     conv=>cbv
     constructor
     ·intro _;subst hΩ;exact hq
     constructor
     ·intro _;subst hΩ;exact hq2
     refine⟨(i+1,v2),[],⟨by omega,hv2⟩,by simp only;omega,Nat.zero_le _,?_⟩
     conv=>cbv
     subst hΩ
     refine⟨?_,ev2,trivial⟩
     show binL .add .i64 (i:Int) 1=((i+1:Nat):Int)
     rw[qF (by omega) (by omega)];omega
    ·intro hc3
     have hev : ¬ i % 2=0:=by
      subst hΩ
      have h : ¬ binL .rem .i64 (i:Int) 2=0:=ne_of_beq_false hc3
      rw[er]at h;omega
     obtain⟨k,hk⟩ : ∃ k,i=2*k+1:=⟨i / 2,by omega⟩
     have hst:=hexE_odd xs (k:=k) (by omega)
     have hg0:=hexE_get xs (2*k+1) k (by omega)
     rw[if_neg (by omega),if_pos (by omega)]at hg0
     have hr1:=hd_rng (hh (111-2*k) (by omega))
     have hr2:=hd_rng gi
     obtain⟨v2,hv2⟩ : ∃ v2,v2=hexE xs (i+1):=⟨_,rfl⟩
     have ev2:v.set (binL .quo .i64 (i:Int) 2).toNat (binL .or .u8 (v.getD (binL .quo .i64 (i:Int) 2).toNat 0) (binL .mul .u8 (binL .sub .u8 (xs.getD (binL .sub .i64 (binL .sub .i64 (xs.length:Int) 1) (i:Int)).toNat 0) 48) 16))=v2:=by
      rw[eq,en,hv2,hv,Int.toNat_natCast,hk,show(2*k+1) / 2=k by omega,show 2*k+1+1=2*k+2 by omega,hst,hg0,show 111-(2*k+1)=110-2*k by omega,qmC hr1 (by rw[show 110-2*k=111-i by omega];exact hr2)]
     have hq:0<=binL .quo .i64 (i:Int) 2/\binL .quo .i64 (i:Int) 2<56:=by rw[eq];omega
     have hq2:(binL .quo .i64 (i:Int) 2).toNat<56:=by rw[eq];omega
     conv=>cbv
     constructor
     ·intro _;subst hΩ;exact hq
     constructor
     ·intro _;subst hΩ;exact hq2
     constructor
     ·intro _;subst hΩ;exact hq
     constructor
     ·intro _;subst hΩ;exact hq2
     refine⟨(i+1,v2),[],⟨by omega,hv2⟩,by simp only;omega,Nat.zero_le _,?_⟩
     conv=>cbv
     subst hΩ
     refine⟨?_,ev2,trivial⟩
     show binL .add .i64 (i:Int) 1=((i+1:Nat):Int)
     rw[qF (by omega) (by omega)];omega
  ·intro hc
   have hc' : ¬ i<112:=by
    rw[hΩ]at hc
    have h : ¬ (i:Int)<((xs.length:Nat):Int):=of_decide_eq_false hc
    omega
   have hvb:Byt v:=by
    intro a ha
    obtain⟨t,ht,rfl⟩:=List.getElem_of_mem ha
    have e:v[t]=v.getD t 0:=by simp[List.getD,ht]
    rw[e,hv,hexE_get xs i t (by omega),if_pos (by omega)]
    have:=hd_rng (hh (111-2*t) (by omega))
    have:=hd_rng (hh (110-2*t) (by omega))
    omega
   conv=>cbv
   constructor
   ·exact fun _=>⟨trivial,trivial,trivial,(show 0<=56 by decide),Nat.le_refl _,Nat.le_refl _⟩
   constructor
   ·exact fun _=>⟨(show 0+56<=56 by decide),trivial⟩
   constructor
   ·exact fun _ _=>hvb
   intro z hz
   have hz1:z=true:=by
    have h:z=(v.length == 56):=hz
    rw[h,hvl];rfl
   subst hz1
   conv=>cbv
   refine hQ () _ _ _ trivial ?_
   subst hΩ
   show Pay.fe (fI (qK v))=Pay.fe (fI (qK (hexB (strB s))))
   rw[hv,show i=112 by omega,hexE_end,hxs]
def qgF (Ω:Om):qe:=fun args=>match args with
 | []=>⟨True,Unit,fun _=>True,fun _ =>.ab (.pt (Ω.hide _ fun _=>baseP))⟩
 | _=>PR.none
theorem qtf:Ctr Tryz.prog T glob 57 (qgF Om.real):=by
 refine qq T_ok qf qg (fun Ω=>[(148,qgE Ω),(76,qcX Ω)]) [] (fun Ω=>[]) [] (qc qte (qc qiz qh)) qi qk ql Tryz.func57 (by rfl) (by kernel_rfl) Tryz.call57 ?_ ?_
 ·intro args;unfold qgF;split
  ·exact qo (by repeat' constructor) (fun _ _=>rfl) (by repeat' constructor)
  ·exact PR.good_none
 ·intro P Ω hΩ hE hI hm args pr hs hp Q hQ
  unfold qgF at hs
  split at hs<;>subst hs<;>try (exact hp.elim)
  refine⟨1000,?_⟩
  conv=>cbv
  constructor
  ·exact fun _ _=>(by decide +kernel)
  intro _ _
  conv=>cbv
  constructor
  ·exact fun _ _=>(by decide +kernel)
  intro _ _
  conv=>cbv
  constructor
  ·exact fun _ _=>(by decide)
  intro _ _
  conv=>cbv
  refine hQ () _ _ _ trivial ?_
  subst hΩ
  exact qcI qfV qii (by decide +kernel) (by decide +kernel)
def qgG (Ω:Om):qe:=fun args=>match args with
 | []=>⟨True,Unit,fun _=>True,fun _ =>.ab (.rp (Ω.hide _ fun _=>baseP))⟩
 | _=>PR.none
theorem qtg:Ctr Tryz.prog T glob 74 (qgG Om.real):=by
 refine qq T_ok qf qg (fun Ω=>[(170,qga Ω),(90,qco Ω)]) [] (fun Ω=>[]) [] (qc qr6 (qc qf3 qh)) qi qk ql Tryz.func74 (by rfl) (by kernel_rfl) Tryz.call74 ?_ ?_
 ·intro args;unfold qgG;split
  ·exact qo (by repeat' constructor) (fun _ _=>rfl) (by repeat' constructor)
  ·exact PR.good_none
 ·intro P Ω hΩ hE hI hm args pr hs hp Q hQ
  unfold qgG at hs
  split at hs<;>subst hs<;>try (exact hp.elim)
  refine⟨1000,?_⟩
  conv=>cbv
  constructor
  ·exact fun _ _=>(by decide +kernel)
  intro _ _
  conv=>cbv
  constructor
  ·exact fun _ _=>(by decide +kernel)
  intro _ _
  conv=>cbv
  constructor
  ·exact fun _ _=>(by decide)
  intro _ _
  conv=>cbv
  refine hQ () _ _ _ trivial ?_
  subst hΩ
  exact qk5 qfV qii (by decide +kernel) (by decide +kernel)
end Go.Sx.Tryz
end
section

end
