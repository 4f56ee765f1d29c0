/-
  Part of the proof of a statement: the means.
-/
import Derived.Test.YtpnebmmjpapopaaGreatDoorX9
import Derived.Test.YtpnebmmjpapopaaGreatDoorX6
set_option linter.unusedSectionVars false
set_option linter.unusedVariables false
set_option linter.unusedSimpArgs false
set_option linter.deprecated false
section
set_option maxHeartbeats 4000000
namespace Go.Sx.Tryz
open Go.Proofs
set_option maxRecDepth 40000
def qf1 (Ω:Om):qe:=fun args=>match args with
 | [.roi .u8 bs]=>⟨∀ _:Unit,bs.length=56 /\ ∀ a ∈ bs,0<=a/\a<256,Unit,fun _=>True,fun _ =>.ab (.re (Ω.hide _ fun _=>fI (qK bs)))⟩
 | _=>PR.none
theorem qrX:Ctr Tryz.prog T glob 31 (qf1 Om.real):=by
 refine qq T_ok qf qg (fun Ω=>[(101,qbY Ω)]) [] (fun Ω=>[]) [] (qc qed qh) qi qk ql Tryz.func31 (by rfl) (by kernel_rfl) Tryz.call31 ?_ ?_
 ·intro args;unfold qf1;split
  ·exact qo (by repeat' constructor) (fun _ _=>rfl) (by repeat' constructor)
  ·exact PR.good_none
 ·intro P Ω hΩ hE hI hm args pr hs hp Q hQ
  unfold qf1 at hs
  split at hs<;>subst hs<;>try (exact hp.elim)
  rename_i bs
  obtain⟨hl,hb⟩:=hp ()
  refine⟨1000,?_⟩
  cbv
  refine qn hE hI hm (fun z:Nat × List Int=>(mkT 39 [(0,.roi .u8 bs),(2,.ptr 0 (.l 0)),(3,.ptr 8 (.l 0)),(4,.int .i64 z.1)],[(8,.row .i64 16 z.2),(0,.row .i64 16 [0,0,0,0,0,0,0,0,0,0,0,0,0,0,0,0])])) (fun z=>z.1<=8/\Ofs bs z.1 z.2) (fun z=>8-z.1) 0 ⟨(0,z16),[],⟨Nat.zero_le _,Ofs.zero bs⟩,Nat.zero_le _,by cbv;exact⟨rfl,trivial⟩⟩ fun z hz=>⟨1000,?_⟩
  obtain⟨i,v⟩:=z
  obtain⟨hi,hv⟩:i<=8/\Ofs bs i v:=hz
  cbv
  constructor
  ·intro hc
   cbv
   rw[hΩ]at hc;simp (disch:=omega) only[Om.real,qb,decide_eq_true_eq,decide_eq_false_iff_not]at hc
   refine qn hE hI hm (fun z:Nat × Int × Int=>(mkT 39 [(0,.roi .u8 bs),(2,.ptr 0 (.l 0)),(3,.ptr 8 (.l 0)),(4,.int .i64 i),(5,.int .i64 z.2.2),(6,.int .i64 z.2.1)],[(8,.row .i64 16 v),(0,.row .i64 16 [0,0,0,0,0,0,0,0,0,0,0,0,0,0,0,0])])) (fun z=>z.1<=7/\z.2.1=z.1-1/\z.2.2=qK ((bs.drop (7*i+z.1)).take (7-z.1))) (fun z=>z.1) 0 ⟨(7,6,0),[],⟨Nat.le_refl _,rfl,rfl⟩,Nat.zero_le _,by cbv⟩ fun z hz=>⟨1000,?_⟩
   obtain⟨k,kk,n⟩:=z
   obtain⟨hk,hkk,hn⟩:k<=7/\kk=(k:Int)-1/\n=qK ((bs.drop (7*i+k)).take (7-k)):=hz
   cbv
   constructor
   ·intro hc2
    cbv
    have hkk:kk=(k:Int)-1:=hkk
    have hc':kk >= 0:=by rw[hΩ]at hc2;exact of_decide_eq_true hc2
    obtain⟨m,rfl⟩ : ∃ m:Nat,kk=m:=⟨kk.toNat,by omega⟩
    have hm7:m<7:=by omega
    have hk1:k=m+1:=by omega
    have hbd:=qfE hb (7*i+m) (7-m)
    have hnb:=qfE hb (7*i+k) (7-k)
    rw[<- hn]at hnb
    have hst:qK ((bs.drop (7*i+m)).take (7-m))=bs.getD (7*i+m) 0+256*n:=by
     rw[show 7-m=(7-k)+1 by omega,qrh (by omega),hn,hk1];rfl
    have p6:(256:Int)^(7-k)<=281474976710656:=by
     have:(256:Int)^(7-k)<=256^6:=by
      have e:((256^(7-k):Nat):Int)<=((256^6:Nat):Int):=Int.ofNat_le.2 (Nat.pow_le_pow_right (by decide) (by omega))
      simpa using e
     exact this
    have hb1:=hb _ (qS (l:=bs) (i:=7*i+m) (by omega))
    obtain⟨n2,hn2⟩ : ∃ n2,n2=qK ((bs.drop (7*i+m)).take (7-m)):=⟨_,rfl⟩
    have e1:binL .mul .i64 n 256=n*256:=qbe (by omega) (by omega)
    have e3:IntKind.i64.wrap (bs.getD (7*i+m) 0)=bs.getD (7*i+m) 0:=qal (by omega) (by omega)
    have e2:binL .add .i64 (n*256) (bs.getD (7*i+m) 0)=n2:=by rw[qF (by omega) (by omega),hn2,hst];omega
    repeat (refine⟨by ((try intro _);(try subst hΩ);simp (disch:=omega) only[Om.real,qb,SN.v];omega),?_⟩)
    obtain⟨k2,hk2⟩ : ∃ k2:Int,k2=(m:Int)-1:=⟨_,rfl⟩
    refine⟨(m,k2,n2),[],⟨by omega,hk2,hn2⟩,by simp only;omega,Nat.zero_le _,?_⟩
    cbv
    subst hΩ
    simp (disch:=omega) only[Om.real,qb]
    exact⟨by rw[e1,e3,e2],(qad (by omega) (by omega)).trans hk2.symm,trivial⟩
   ·intro hc2
    cbv
    have hkk:kk=(k:Int)-1:=hkk
    have hc' : ¬ kk >= 0:=by rw[hΩ]at hc2;exact of_decide_eq_false hc2
    have h0:k=0:=by omega
    subst h0
    have hst:=hv.step hc hl hb hn
    have hnb:=qfE hb (7*i) 7
    have hn:n=qK ((bs.drop (7*i)).take 7):=hn
    rw[<- hn]at hnb
    have p7:(256:Int)^7=72057594037927936:=by decide
    rw[p7]at hnb
    obtain⟨v2,hv2⟩ : ∃ v2,v2=(v.set (2*i) (n % 268435456)).set (2*i+1) (n / 268435456):=⟨_,rfl⟩
    rw[<- hv2]at hst
    have hvl:=hv.len
    have e1:binL .rem .i64 n 268435456=n % 268435456:=Int.tmod_eq_emod_of_nonneg hnb.1
    have e2:binL .quo .i64 n 268435456=n / 268435456:=by
     rw[qbW (by rw[Int.tdiv_eq_ediv_of_nonneg hnb.1];omega) (by rw[Int.tdiv_eq_ediv_of_nonneg hnb.1];omega),Int.tdiv_eq_ediv_of_nonneg hnb.1]
    repeat (refine⟨by ((try intro _);(try subst hΩ);simp (disch:=omega) only[Om.real,qb,SN.v];omega),?_⟩)
    refine⟨(i+1,v2),[],⟨by omega,hst⟩,by simp only;omega,Nat.zero_le _,?_⟩
    cbv
    subst hΩ
    simp (disch:=omega) only[Om.real,qb]
    exact⟨trivial,by rw[e1,e2];exact hv2.symm,trivial⟩
  ·intro hc
   cbv
   rw[hΩ]at hc;simp (disch:=omega) only[Om.real,qb,decide_eq_true_eq,decide_eq_false_iff_not]at hc
   have h8:i=8:=by omega
   subst h8
   obtain⟨q1,q2⟩:=hv.done hl
   have q3:=hv.len
   constructor
   ·intro _ _;subst hΩ;exact⟨q3,q2⟩
   intro _ _
   cbv
   refine hQ () _ _ _ trivial ?_
   subst hΩ
   show Pay.re (fI (valB 268435456 v))=Pay.re (fI (qK bs))
   rw[q1]
def qeg (Ω:Om):qe:=fun args=>match args with
 | [.ab (.re x)]=>⟨True,List Int × Nat,fun z=>z.1=qap x/\z.1.length<=z.2,fun z =>.fr .u8 z.1 z.2⟩
 | [.row .i64 16 xs]=>⟨∀ _:Unit,xs.length=16/\(∀ a ∈ xs,0<=a/\a<268435456),List Int × Nat,fun z=>z.1=qZ (valB 268435456 xs).toNat 56/\z.1.length<=z.2,fun z =>.fr .u8 z.1 z.2⟩
 | _=>PR.none
theorem qmG:Ctr Tryz.prog T glob 33 (qeg Om.real):=by
 refine qao T_ok qf qg (fun Ω=>[]) [] (fun Ω=>[]) [] qh qi qk ql Tryz.func33 (by rfl) (by kernel_rfl) Tryz.call33 ?_ ?_
 ·intro args;unfold qeg;split
  ·exact qav ⟨trivial,trivial⟩ fun _=>qaM _
  ·exact qav ⟨trivial,trivial⟩ fun _=>qaM _
  ·exact PR.good_none
 ·intro P Ω hΩ hE hI hm args pr hs hp cs hcs Q hQ
  unfold qeg at hs
  split at hs<;>subst hs<;>try (exact hp.elim)
  ·rename_i x
   obtain⟨_,_,rfl,⟨xs,rfl,hx⟩,rfl⟩:=hcs
   obtain⟨hl,hdg0,hv⟩:okRe x xs:=hx
   refine⟨1000,?_⟩
   cbv
   refine qn hE hI hm (fun x:Nat × List Int × Nat × Nat=>(mkT 35 [(1,.ptr 0 (.l 0)),(2,.val (.slice none 0 0)),(3,.sl 32 1 (.l 0) (.s x.2.2.1) (.s x.2.2.2)),(4,.int .i64 x.1)],[(32,.seq .u8 x.2.1),(0,.row .i64 16 xs)])) (fun z=>z.1<=8/\z.2.1=qZ x.val (7*z.1)/\z.2.2.1=7*z.1/\z.2.2.1<=z.2.2.2) (fun x=>8-x.1) 1 ⟨(0,[],0,0),[none],⟨Nat.zero_le _,rfl,rfl,Nat.le_refl _⟩,by decide,?_⟩ fun x hx=>⟨1000,?_⟩
   ·cbv
    exact⟨rfl,trivial⟩
   obtain⟨i,u,n,c⟩:=x
   obtain⟨hi,hu,hn,hc⟩:i<=8/\u=qZ x.val (7*i)/\n=7*i/\n<=c:=hx
   cbv
   constructor
   ·intro hd
    cbv
    rw[hΩ]at hd;simp (disch:=omega) only[Om.real,qb,decide_eq_true_eq,decide_eq_false_iff_not]at hd
    repeat (refine⟨by ((try intro _);(try subst hΩ);simp (disch:=omega) only[Om.real,qb,SN.v];omega),?_⟩)
    have hdg:=dig2 (N:=x.val) (i:=i) hl hdg0 hv hd
    have b1:=hdg0 _ (qS (l:=xs) (i:=2*i) (by omega))
    have b2:=hdg0 _ (qS (l:=xs) (i:=2*i+1) (by omega))
    obtain⟨D,hD⟩ : ∃ D:Nat,D=x.val / 256^(7*i) % 72057594037927936:=⟨_,rfl⟩
    rw[<- hD]at hdg
    have hDb:D<72057594037927936:=by rw[hD];exact Nat.mod_lt _ (by decide)
    have eD:binL .add .i64 (xs.getD (2*i) 0) (binL .mul .i64 (xs.getD (2*i+1) 0) 268435456)=(D:Int):=by
     rw[qbe (by omega) (by omega),qF (by omega) (by omega)];exact hdg
    refine qn hE hI hm (fun x:Nat × List Int × Nat × Nat × Nat=>(mkT 35 [(1,.ptr 0 (.l 0)),(2,.val (.slice none 0 0)),(3,.sl 160 1 (.l 0) (.s x.2.2.1) (.s x.2.2.2.1)),(4,.int .i64 i),(5,.int .i64 x.2.2.2.2),(6,.int .i64 x.1)],[(160,.seq .u8 x.2.1),(0,.row .i64 16 xs)])) (fun z=>z.1<=7/\z.2.1=qZ x.val (7*i+z.1)/\z.2.2.1=7*i+z.1/\z.2.2.1<=z.2.2.2.1/\z.2.2.2.2=D / 256^z.1) (fun x=>7-x.1) 1 ⟨(0,u,n,c,D),[some 32],⟨Nat.zero_le _,hu,hn,hc,(Nat.div_one D).symm⟩,by decide,?_⟩ fun y hy=>⟨1000,?_⟩
    ·cbv
     subst hΩ
     simp (disch:=omega) only[Om.real,qb]
     exact⟨eD,rfl,trivial⟩
    obtain⟨k,v,m,c2,w⟩:=y
    obtain⟨hk,hv2,hm',hc2,hw⟩:k<=7/\v=qZ x.val (7*i+k)/\m=7*i+k/\m<=c2/\w=D / 256^k:=hy
    have hvl:v.length=m:=by rw[hv2,qcV,hm']
    have hwb:w<=D:=by rw[hw];exact Nat.div_le_self _ _
    cbv
    constructor
    ·intro he
     cbv
     rw[hΩ]at he;simp (disch:=omega) only[Om.real,qb,decide_eq_true_eq,decide_eq_false_iff_not]at he
     constructor
     ·exact fun _=>(show(m+1)*1<=140737488355328 by omega)
     constructor
     ·exact fun _=>⟨(show 0+m*1<=v.length by omega),(show 0+1*1<=1 by omega)⟩
     intro cap hcap
     have hcap:m+1<=cap:=hcap
     cbv
     obtain⟨v',hv'⟩ : ∃ v',v'=qZ x.val (7*i+k+1):=⟨_,rfl⟩
     obtain⟨w',hw'⟩ : ∃ w',w'=D / 256^(k+1):=⟨_,rfl⟩
     obtain⟨m2,hm2⟩ : ∃ m2,m2=m+1:=⟨_,rfl⟩
     have ew:w'=w / 256:=by rw[hw',hw,Nat.pow_succ,Nat.div_div_eq_div_mul]
     have e1:binL .quo .i64 (w:Int) 256=(w':Int):=by
      have e:((w:Int)).tdiv 256=(w':Int):=by rw[Int.tdiv_eq_ediv_of_nonneg (by omega),ew];omega
      rw[qbW (by rw[e];omega) (by rw[e];omega),e]
     have e2:IntKind.u8.wrap (binL .rem .i64 (w:Int) 256)=((x.val / 256^(7*i+k) % 256:Nat):Int):=by
      have e:binL .rem .i64 (w:Int) 256=(w:Int) % 256:=Int.tmod_eq_emod_of_nonneg (a:=(w:Int)) (b:=256) (Int.natCast_nonneg w)
      rw[e,IntKind.wrap_u8,<- qfF x.val i k he,<- hD,<- hw];omega
     refine⟨(k+1,v',m2,cap,w'),[some 224],⟨he,hv',?_,?_,hw'⟩,by simp only;omega,by decide,?_⟩
     ·show m2=7*i+(k+1);omega
     ·show m2<=cap;omega
     cbv
     subst hΩ
     simp (disch:=omega) only[Om.real,qb]
     refine⟨hm2.symm,by rw[ew],trivial,?_⟩
     refine⟨?_,trivial⟩
     rw[List.drop_zero,List.take_of_length_le (by omega),hv',hv2,qmp,IntKind.wrap_u8,<- qfF x.val i k he,<- hD,<- hw]
     congr 2
     omega
    ·intro he
     cbv
     rw[hΩ]at he;simp (disch:=omega) only[Om.real,qb,decide_eq_true_eq,decide_eq_false_iff_not]at he
     have hk7:k=7:=by omega
     subst hk7
     refine⟨(i+1,v,m,c2),[some 160],⟨hd,hv2,hm',hc2⟩,by simp only;omega,by decide,?_⟩
     cbv
     subst hΩ
     simp (disch:=omega) only[Om.real,qb]
     exact⟨trivial,trivial⟩
   ·intro hd
    cbv
    rw[hΩ]at hd;simp (disch:=omega) only[Om.real,qb,decide_eq_true_eq,decide_eq_false_iff_not]at hd
    have h8:i=8:=by omega
    subst h8
    have hul:u.length=n:=by rw[hu,qcV,hn]
    refine hQ (u,c) _ _ _ ⟨hu.trans (qrj x).symm,by show u.length<=c;omega⟩ ?_
    refine⟨rfl,rfl,by show 0+n<=u.length;omega,?_⟩
    subst hΩ
    show u=(u.drop 0).take n
    rw[List.drop_zero,List.take_of_length_le (by omega)]
  ·rename_i xs
   obtain⟨_,_,rfl,rfl,rfl⟩:=hcs
   obtain⟨hl,hdg0⟩:=hp ()
   obtain⟨N,hv⟩ : ∃ N:Nat,valB 268435456 xs=N:=⟨(valB 268435456 xs).toNat,by have:=(qbV _ hdg0).1;omega⟩
   refine⟨1000,?_⟩
   cbv
   refine qn hE hI hm (fun x:Nat × List Int × Nat × Nat=>(mkT 35 [(1,.ptr 0 (.l 0)),(2,.val (.slice none 0 0)),(3,.sl 32 1 (.l 0) (.s x.2.2.1) (.s x.2.2.2)),(4,.int .i64 x.1)],[(32,.seq .u8 x.2.1),(0,.row .i64 16 xs)])) (fun z=>z.1<=8/\z.2.1=qZ N (7*z.1)/\z.2.2.1=7*z.1/\z.2.2.1<=z.2.2.2) (fun x=>8-x.1) 1 ⟨(0,[],0,0),[none],⟨Nat.zero_le _,rfl,rfl,Nat.le_refl _⟩,by decide,?_⟩ fun x hx=>⟨1000,?_⟩
   ·cbv
    exact⟨rfl,trivial⟩
   obtain⟨i,u,n,c⟩:=x
   obtain⟨hi,hu,hn,hc⟩:i<=8/\u=qZ N (7*i)/\n=7*i/\n<=c:=hx
   cbv
   constructor
   ·intro hd
    cbv
    rw[hΩ]at hd;simp (disch:=omega) only[Om.real,qb,decide_eq_true_eq,decide_eq_false_iff_not]at hd
    repeat (refine⟨by ((try intro _);(try subst hΩ);simp (disch:=omega) only[Om.real,qb,SN.v];omega),?_⟩)
    have hdg:=dig2 (N:=N) (i:=i) hl hdg0 hv hd
    have b1:=hdg0 _ (qS (l:=xs) (i:=2*i) (by omega))
    have b2:=hdg0 _ (qS (l:=xs) (i:=2*i+1) (by omega))
    obtain⟨D,hD⟩ : ∃ D:Nat,D=N / 256^(7*i) % 72057594037927936:=⟨_,rfl⟩
    rw[<- hD]at hdg
    have hDb:D<72057594037927936:=by rw[hD];exact Nat.mod_lt _ (by decide)
    have eD:binL .add .i64 (xs.getD (2*i) 0) (binL .mul .i64 (xs.getD (2*i+1) 0) 268435456)=(D:Int):=by
     rw[qbe (by omega) (by omega),qF (by omega) (by omega)];exact hdg
    refine qn hE hI hm (fun x:Nat × List Int × Nat × Nat × Nat=>(mkT 35 [(1,.ptr 0 (.l 0)),(2,.val (.slice none 0 0)),(3,.sl 160 1 (.l 0) (.s x.2.2.1) (.s x.2.2.2.1)),(4,.int .i64 i),(5,.int .i64 x.2.2.2.2),(6,.int .i64 x.1)],[(160,.seq .u8 x.2.1),(0,.row .i64 16 xs)])) (fun z=>z.1<=7/\z.2.1=qZ N (7*i+z.1)/\z.2.2.1=7*i+z.1/\z.2.2.1<=z.2.2.2.1/\z.2.2.2.2=D / 256^z.1) (fun x=>7-x.1) 1 ⟨(0,u,n,c,D),[some 32],⟨Nat.zero_le _,hu,hn,hc,(Nat.div_one D).symm⟩,by decide,?_⟩ fun y hy=>⟨1000,?_⟩
    ·cbv
     subst hΩ
     simp (disch:=omega) only[Om.real,qb]
     exact⟨eD,rfl,trivial⟩
    obtain⟨k,v,m,c2,w⟩:=y
    obtain⟨hk,hv2,hm',hc2,hw⟩:k<=7/\v=qZ N (7*i+k)/\m=7*i+k/\m<=c2/\w=D / 256^k:=hy
    have hvl:v.length=m:=by rw[hv2,qcV,hm']
    have hwb:w<=D:=by rw[hw];exact Nat.div_le_self _ _
    cbv
    constructor
    ·intro he
     cbv
     rw[hΩ]at he;simp (disch:=omega) only[Om.real,qb,decide_eq_true_eq,decide_eq_false_iff_not]at he
     constructor
     ·exact fun _=>(show(m+1)*1<=140737488355328 by omega)
     constructor
     ·exact fun _=>⟨(show 0+m*1<=v.length by omega),(show 0+1*1<=1 by omega)⟩
     intro cap hcap
     have hcap:m+1<=cap:=hcap
     cbv
     obtain⟨v',hv'⟩ : ∃ v',v'=qZ N (7*i+k+1):=⟨_,rfl⟩
     obtain⟨w',hw'⟩ : ∃ w',w'=D / 256^(k+1):=⟨_,rfl⟩
     obtain⟨m2,hm2⟩ : ∃ m2,m2=m+1:=⟨_,rfl⟩
     have ew:w'=w / 256:=by rw[hw',hw,Nat.pow_succ,Nat.div_div_eq_div_mul]
     have e1:binL .quo .i64 (w:Int) 256=(w':Int):=by
      have e:((w:Int)).tdiv 256=(w':Int):=by rw[Int.tdiv_eq_ediv_of_nonneg (by omega),ew];omega
      rw[qbW (by rw[e];omega) (by rw[e];omega),e]
     have e2:IntKind.u8.wrap (binL .rem .i64 (w:Int) 256)=((N / 256^(7*i+k) % 256:Nat):Int):=by
      have e:binL .rem .i64 (w:Int) 256=(w:Int) % 256:=Int.tmod_eq_emod_of_nonneg (a:=(w:Int)) (b:=256) (Int.natCast_nonneg w)
      rw[e,IntKind.wrap_u8,<- qfF N i k he,<- hD,<- hw];omega
     refine⟨(k+1,v',m2,cap,w'),[some 224],⟨he,hv',?_,?_,hw'⟩,by simp only;omega,by decide,?_⟩
     ·show m2=7*i+(k+1);omega
     ·show m2<=cap;omega
     cbv
     subst hΩ
     simp (disch:=omega) only[Om.real,qb]
     refine⟨hm2.symm,by rw[ew],trivial,?_⟩
     refine⟨?_,trivial⟩
     rw[List.drop_zero,List.take_of_length_le (by omega),hv',hv2,qmp,IntKind.wrap_u8,<- qfF N i k he,<- hD,<- hw]
     congr 2
     omega
    ·intro he
     cbv
     rw[hΩ]at he;simp (disch:=omega) only[Om.real,qb,decide_eq_true_eq,decide_eq_false_iff_not]at he
     have hk7:k=7:=by omega
     subst hk7
     refine⟨(i+1,v,m,c2),[some 160],⟨hd,hv2,hm',hc2⟩,by simp only;omega,by decide,?_⟩
     cbv
     subst hΩ
     simp (disch:=omega) only[Om.real,qb]
     exact⟨trivial,trivial⟩
   ·intro hd
    cbv
    rw[hΩ]at hd;simp (disch:=omega) only[Om.real,qb,decide_eq_true_eq,decide_eq_false_iff_not]at hd
    have h8:i=8:=by omega
    subst h8
    have hul:u.length=n:=by rw[hu,qcV,hn]
    refine hQ (u,c) _ _ _ ⟨hu.trans (by rw[hv];rfl),by show u.length<=c;omega⟩ ?_
    refine⟨rfl,rfl,by show 0+n<=u.length;omega,?_⟩
    subst hΩ
    show u=(u.drop 0).take n
    rw[List.drop_zero,List.take_of_length_le (by omega)]
def qf2 (Ω:Om):qe:=fun args=>match args with
 | []=>⟨True,List Int × Nat,fun z=>z.1=qbX/\z.1.length<=z.2,fun z =>.fr .u8 z.1 z.2⟩
 | _=>PR.none
theorem qrY:Ctr Tryz.prog T glob 187 (qf2 Om.real):=by
 refine qq T_ok qf qg (fun Ω=>[(33,qeg Ω),(104,qcn Ω)]) [] (fun Ω=>[]) [] (qc qmG (qc qfY qh)) qi qk ql Tryz.func187 (by rfl) (by kernel_rfl) Tryz.call187 ?_ ?_
 ·intro args;unfold qf2;split
  ·exact qav trivial fun _=>qaM _
  ·exact PR.good_none
 ·intro P Ω hΩ hE hI hm args pr hs hp Q hQ
  unfold qf2 at hs
  split at hs<;>subst hs<;>try (exact hp.elim)
  refine⟨1000,?_⟩
  cbv
  constructor
  ·exact fun _=>trivial
  intro _ _
  cbv
  constructor
  ·intro _ _;subst hΩ;exact⟨rfl,qd4⟩
  intro z hz
  have hz:z.1=qbX/\z.1.length<=z.2:=by subst hΩ;exact⟨hz.1.trans qrk,hz.2⟩
  cbv
  refine hQ z _ _ _ hz ?_
  subst hΩ
  exact⟨rfl,rfl,by show 0+z.1.length<=z.1.length;omega,List.take_length.symm⟩
def qco (Ω:Om):qe:=fun args=>match args with
 | [.int .i64 n]=>⟨∀ _:Unit,-9223372036854775808<=n/\n<9223372036854775808,Unit,fun _=>True,fun _ =>.ab (.re (Ω.hide _ fun _=>fI n))⟩
 | _=>PR.none
theorem qf3:Ctr Tryz.prog T glob 90 (qco Om.real):=by
 refine qq T_ok qf qg (fun Ω=>[(101,qbY Ω),(34,qef Ω)]) [] (fun Ω=>[]) [] (qc qed (qc qmF qh)) qi qk ql Tryz.func90 (by rfl) (by kernel_rfl) Tryz.call90 ?_ ?_
 ·intro args;unfold qco;split
  ·exact qo (by repeat' constructor) (fun _ _=>rfl) (by repeat' constructor)
  ·exact PR.good_none
 ·intro P Ω hΩ hE hI hm args pr hs hp Q hQ
  unfold qco at hs
  split at hs<;>subst hs<;>try (exact hp.elim)
  rename_i n
  obtain⟨hn0,hn1⟩:=hp ()
  refine⟨1000,?_⟩
  cbv
  constructor
  ·intro hc
   cbv
   rw[hΩ]at hc;simp (disch:=omega) only[Om.real,qb,decide_eq_true_eq,decide_eq_false_iff_not]at hc
   obtain⟨r1,r2,r3⟩:=qmr hn0 hn1
   have e1:unL .neg .i64 (binL .rem .i64 n 268435456) = -n.tmod 268435456:=by
    show IntKind.i64.wrap (0-n.tmod 268435456)=_
    rw[Int.zero_sub];exact qal (by omega) (by omega)
   have e2:binL .quo .i64 n 268435456=n.tdiv 268435456:=qbW (by omega) (by omega)
   have e3:unL .neg .i64 (n.tdiv 268435456) = -n.tdiv 268435456:=by
    show IntKind.i64.wrap (0-n.tdiv 268435456)=_
    rw[Int.zero_sub];exact qal (by omega) (by omega)
   obtain⟨q1,q2,q3⟩:=qmq (-n.tmod 268435456) (-n.tdiv 268435456) (by omega) (by omega)
   constructor
   ·intro _ _
    subst hΩ
    have:(Om.real.set (Om.real.set z16 0 (unL .neg .i64 (binL .rem .i64 n 268435456))) 1 (unL .neg .i64 (binL .quo .i64 n 268435456)))=(z16.set 0 (-n.tmod 268435456)).set 1 (-n.tdiv 268435456):=by rw[e1,e2,e3];rfl
    show List.length (Om.real.set (Om.real.set z16 0 (unL .neg .i64 (binL .rem .i64 n 268435456))) 1 (unL .neg .i64 (binL .quo .i64 n 268435456)))=16 /\ ∀ x ∈ (Om.real.set (Om.real.set z16 0 (unL .neg .i64 (binL .rem .i64 n 268435456))) 1 (unL .neg .i64 (binL .quo .i64 n 268435456))),_
    rw[this];exact⟨q1,q2⟩
   intro _ _
   cbv
   repeat (constructor;(first|exact fun _=>trivial|exact fun _ _=>(by decide));intro _ _;cbv)
   refine hQ () _ _ _ trivial ?_
   subst hΩ
   show Pay.re (-(fI (valB 268435456 ((z16.set 0 (unL .neg .i64 (binL .rem .i64 n 268435456))).set 1 (unL .neg .i64 (binL .quo .i64 n 268435456))))))=Pay.re (fI n)
   rw[e1,e2,e3,q3,show -n.tmod 268435456+268435456 * -n.tdiv 268435456 = -n by omega,qhZ]
   have : -(-fI n)=fI n:=by grind -lia -linarith -order -ac (splits:=0)
   rw[this]
  ·intro hc
   cbv
   rw[hΩ]at hc;simp (disch:=omega) only[Om.real,qb,decide_eq_true_eq,decide_eq_false_iff_not]at hc
   obtain⟨r1,r2,r3⟩:=qmr hn0 hn1
   have e2:binL .quo .i64 n 268435456=n.tdiv 268435456:=qbW (by omega) (by omega)
   obtain⟨q1,q2,q3⟩:=qmq (n.tmod 268435456) (n.tdiv 268435456) (by omega) (by omega)
   constructor
   ·intro _ _
    subst hΩ
    have:(Om.real.set (Om.real.set z16 0 (binL .rem .i64 n 268435456)) 1 (binL .quo .i64 n 268435456))=(z16.set 0 (n.tmod 268435456)).set 1 (n.tdiv 268435456):=by rw[e2];rfl
    show List.length (Om.real.set (Om.real.set z16 0 (binL .rem .i64 n 268435456)) 1 (binL .quo .i64 n 268435456))=16 /\ ∀ x ∈ (Om.real.set (Om.real.set z16 0 (binL .rem .i64 n 268435456)) 1 (binL .quo .i64 n 268435456)),_
    rw[this];exact⟨q1,q2⟩
   intro _ _
   cbv
   refine hQ () _ _ _ trivial ?_
   subst hΩ
   show Pay.re (fI (valB 268435456 ((z16.set 0 (binL .rem .i64 n 268435456)).set 1 (binL .quo .i64 n 268435456))))=Pay.re (fI n)
   rw[e2,show binL .rem .i64 n 268435456=n.tmod 268435456 from rfl,q3,show n.tmod 268435456+268435456*n.tdiv 268435456=n by omega]
end Go.Sx.Tryz
end
section
set_option maxHeartbeats 4000000
namespace Go.Sx.Tryz
open Go.Proofs
set_option maxRecDepth 40000
def qeh (Ω:Om):qe:=fun args=>match args with
 | [.roi .u8 bs,.int .i64 i]=>⟨∀ _:Unit,0<=i/\bs.length<9223372036854775808/\Byt bs,Unit,fun _=>True,fun _ =>.int .i64 (Ω.hide _ fun _=>bs.getD i.toNat 0)⟩
 | _=>PR.none
theorem qmH:Ctr Tryz.prog T glob 209 (qeh Om.real):=by
 refine qq T_ok qf qg (fun Ω=>[]) [] (fun Ω=>[]) [] qh qi qk ql Tryz.func209 (by rfl) (by kernel_rfl) Tryz.call209 ?_ ?_
 ·intro args;unfold qeh;split
  ·exact qo (by repeat' constructor) (fun _ _=>rfl) (by repeat' constructor)
  ·exact PR.good_none
 ·intro P Ω hΩ hE hI hm args pr hs hp Q hQ
  unfold qeh at hs
  split at hs<;>subst hs<;>try (exact hp.elim)
  rename_i bs i
  obtain⟨hi,hl,hb⟩:=hp ()
  obtain⟨n,rfl⟩:=Int.eq_ofNat_of_zero_le hi
  refine⟨1000,?_⟩
  cbv
  constructor
  ·intro hc
   cbv
   refine hQ () _ _ _ trivial ?_
   rw[hΩ]at hc;simp (disch:=omega) only[Om.real,qb,decide_eq_true_eq,decide_eq_false_iff_not]at hc
   subst hΩ
   refine⟨rfl,?_⟩
   show 0=bs.getD n 0
   simp[List.getD,hc]
  ·intro hc
   cbv
   rw[hΩ]at hc;simp (disch:=omega) only[Om.real,qb,decide_eq_true_eq,decide_eq_false_iff_not]at hc
   repeat (refine⟨by ((try intro _);(try subst hΩ);simp (disch:=omega) only[Om.real,qb,SN.v];omega),?_⟩)
   refine hQ () _ _ _ trivial ?_
   subst hΩ
   refine⟨rfl,?_⟩
   have hx:=qd7 hb n
   show IntKind.i64.wrap (bs.getD n 0)=bs.getD n 0
   exact qal (by omega) (by omega)
def qc2 (Ω:Om):qe:=fun args=>match args with
 | [.roi .u8 bs,.int .i64 i]=>⟨∀ _:Unit,bs.length<9223372036854775808/\(-9223372036854775808<=i/\i<9223372036854775808)/\Byt bs,Unit,fun _=>True,fun _ =>.int .i64 (Ω.hide _ fun _=>if i<0 then 0 else ((bitN (nV bs) i.toNat:Nat):Int))⟩
 | _=>PR.none
theorem qiF:Ctr Tryz.prog T glob 169 (qc2 Om.real):=by
 refine qq T_ok qf qg (fun Ω=>[(209,qeh Ω)]) [] (fun Ω=>[]) [] (qc qmH qh) qi qk ql Tryz.func169 (by rfl) (by kernel_rfl) Tryz.call169 ?_ ?_
 ·intro args;unfold qc2;split
  ·exact qo (by repeat' constructor) (fun _ _=>rfl) (by repeat' constructor)
  ·exact PR.good_none
 ·intro P Ω hΩ hE hI hm args pr hs hp Q hQ
  unfold qc2 at hs
  split at hs<;>subst hs<;>try (exact hp.elim)
  rename_i bs i
  obtain⟨hl,⟨hi0,hi1⟩,hb⟩:=hp ()
  refine⟨1000,?_⟩
  cbv
  constructor
  ·intro hc
   cbv
   have hc':i<0:=by rw[hΩ]at hc;exact of_decide_eq_true hc
   refine hQ () _ _ _ trivial ?_
   subst hΩ
   exact⟨rfl,(if_pos hc').symm⟩
  ·intro hc
   cbv
   have hc' : ¬ i<0:=by rw[hΩ]at hc;exact of_decide_eq_false hc
   obtain⟨n,rfl⟩:=Int.eq_ofNat_of_zero_le (show 0<=i by omega)
   have eq:binL .quo .i64 (n:Int) 8=((n / 8:Nat):Int):=by
    rw[qbW (by rw[Int.tdiv_eq_ediv_of_nonneg (by omega)];omega) (by rw[Int.tdiv_eq_ediv_of_nonneg (by omega)];omega),Int.tdiv_eq_ediv_of_nonneg (by omega)];omega
   have er:binL .rem .i64 (n:Int) 8=((n % 8:Nat):Int):=by
    have:binL .rem .i64 (n:Int) 8=(n:Int) % 8:=Int.tmod_eq_emod_of_nonneg (a:=(n:Int)) (b:=8) (Int.natCast_nonneg n)
    rw[this];omega
   constructor
   ·intro _ _;subst hΩ;refine⟨?_,hl,hb⟩;show 0<=binL .quo .i64 (n:Int) 8;rw[eq];omega
   intro _ _
   cbv
   obtain⟨r,hr⟩ : ∃ r,r=n % 8:=⟨_,rfl⟩
   rw[<- hr]at er
   obtain⟨D,hD⟩ : ∃ D:Nat,D=nV bs / 256^(n / 8) % 256:=⟨_,rfl⟩
   have hDb:D<256:=by rw[hD];exact Nat.mod_lt _ (by decide)
   refine qn hE hI hm (fun z:Nat × Nat=>(mkT 23 [(0,.roi .u8 bs),(1,.int .i64 n),(4,.lit .i64 0),(5,.int .i64 z.2),(6,.int .i64 z.1)],[])) (fun z=>z.1<=r/\z.2=D / 2^z.1) (fun z=>r-z.1) 0 ⟨(0,D),[],⟨Nat.zero_le _,(Nat.div_one D).symm⟩,Nat.zero_le _,?_⟩ fun z hz=>⟨1000,?_⟩
   ·cbv
    subst hΩ
    refine⟨?_,rfl⟩
    show bs.getD (binL .quo .i64 (n:Int) 8).toNat 0=(D:Int)
    rw[eq,Int.toNat_natCast,qiv hb,<- hD]
   obtain⟨k,w⟩:=z
   obtain⟨hk,hw⟩:k<=r/\w=D / 2^k:=hz
   have hwb:w<=D:=by rw[hw];exact Nat.div_le_self _ _
   cbv
   constructor
   ·intro hc2
    cbv
    have hc2':k<r:=by
     rw[hΩ]at hc2
     have h:(k:Int)<binL .rem .i64 (n:Int) 8:=of_decide_eq_true hc2
     have er:binL .rem .i64 (n:Int) 8=(r:Int):=er
     rw[er]at h;exact Int.ofNat_lt.1 h
    obtain⟨w2,hw2⟩ : ∃ w2,w2=D / 2^(k+1):=⟨_,rfl⟩
    refine⟨(k+1,w2),[],⟨by omega,hw2⟩,by simp only;omega,Nat.zero_le _,?_⟩
    have ew:w2=w / 2:=by rw[hw2,hw,Nat.pow_succ,Nat.div_div_eq_div_mul]
    cbv
    subst hΩ
    simp (disch:=omega) only[Om.real,qb]
    exact⟨by rw[ew],trivial⟩
   ·intro hc2
    cbv
    have hc2' : ¬ k<r:=by
     rw[hΩ]at hc2
     have h : ¬ (k:Int)<binL .rem .i64 (n:Int) 8:=of_decide_eq_false hc2
     have er:binL .rem .i64 (n:Int) 8=(r:Int):=er
     rw[er]at h;omega
    have hk:k<=r:=hk
    have hk8:k=r:=by omega
    refine hQ () _ _ _ trivial ?_
    subst hΩ
    refine⟨rfl,?_⟩
    show binL .rem .i64 (w:Int) 2=if (n:Int)<0 then 0 else ((bitN (nV bs) (n:Int).toNat:Nat):Int)
    have e:binL .rem .i64 (w:Int) 2=(w:Int) % 2:=Int.tmod_eq_emod_of_nonneg (a:=(w:Int)) (b:=2) (Int.natCast_nonneg w)
    rw[if_neg (by omega),e,Int.toNat_natCast,<- qmv,<- hD,<- hr,<- hk8,<- hw];omega
def qf4 (Ω:Om):qe:=fun args=>match args with
 | [.roi .u8 bs]=>⟨∀ _:Unit,bs.length<1152921504606846976/\Byt bs,Nat,fun z=>qiy (nV bs) z/\z<=8*bs.length,fun z =>.int .i64 z⟩
 | _=>PR.none
theorem qrZ:Ctr Tryz.prog T glob 168 (qf4 Om.real):=by
 refine qq T_ok qf qg (fun Ω=>[(169,qc2 Ω)]) [] (fun Ω=>[]) [] (qc qiF qh) qi qk ql Tryz.func168 (by rfl) (by kernel_rfl) Tryz.call168 ?_ ?_
 ·intro args;unfold qf4;split
  ·exact qib (by refine⟨?_,?_⟩<;>intros<;>trivial) (by repeat' constructor) (fun h=>qrq (qfH (h ()).2))
  ·exact PR.good_none
 ·intro P Ω hΩ hE hI hm args pr hs hp Q hQ
  unfold qf4 at hs
  split at hs<;>subst hs<;>try (exact hp.elim)
  rename_i bs
  obtain⟨hl,hb⟩:=hp ()
  refine⟨1000,?_⟩
  cbv
  obtain⟨L8,hL8⟩ : ∃ L8,L8=8*bs.length:=⟨_,rfl⟩
  have e0:Ω.bin .mul .i64 8 (Ω.ofN (Ω.len bs))=(L8:Int):=by
   subst hΩ
   show binL .mul .i64 8 (bs.length:Int)=L8
   rw[qbe (by omega) (by omega)];omega
  refine qn hE hI hm (fun z:Nat=>(mkT 19 [(0,.roi .u8 bs),(2,.lit .i64 0),(3,.int .i64 z)],[])) (fun z=>z<=8*bs.length/\nV bs<2^z) (fun z=>z) 0 ⟨L8,[],⟨Nat.le_of_eq hL8,by rw[hL8];exact qfH hb⟩,Nat.zero_le _,?_⟩ fun n hz=>⟨1000,?_⟩
  ·cbv
   exact e0
  obtain⟨hn,hv⟩:n<=8*bs.length/\nV bs<2^n:=hz
  cbv
  constructor
  ·intro hc
   have hc':0<n:=by
    rw[hΩ]at hc
    have h:(n:Int) > 0:=of_decide_eq_true hc
    omega
   obtain⟨m,hm1⟩ : ∃ m,n=m+1:=⟨n-1,by omega⟩
   have es:binL .sub .i64 (n:Int) 1=(m:Int):=by rw[qad (by omega) (by omega)];omega
   have ht : ∀ B:Nat,(if binL .sub .i64 (n:Int) 1<0 then (0:Int) else ((bitN B (binL .sub .i64 (n:Int) 1).toNat:Nat):Int))=((bitN B m:Nat):Int):=by
    intro B;rw[es,if_neg (by omega),Int.toNat_natCast]
   cbv
   constructor
   ·intro _ _
    subst hΩ
    refine⟨by omega,?_,hb⟩
    show -9223372036854775808<=binL .sub .i64 (n:Int) 1/\binL .sub .i64 (n:Int) 1<_
    have es:binL .sub .i64 (n:Int) 1=(m:Int):=es
    rw[es];omega
   intro _ _
   cbv
   constructor
   ·intro hc2
    have hz:bitN (nV bs) m=0:=by
     subst hΩ
     have h:=eq_of_beq hc2
     have h2:((bitN (nV bs) m:Nat):Int)=0:=(ht (nV bs)).symm.trans h
     exact Int.ofNat_inj.1 h2
    have hst:=qmw (n:=m) (by rw[<- hm1];exact hv) hz
    cbv
    refine⟨m,[],⟨by omega,hst⟩,by omega,Nat.zero_le _,?_⟩
    cbv
    subst hΩ
    exact es
   ·intro hc2
    have hz:bitN (nV bs) m ≠ 0:=by
     subst hΩ
     have h:=ne_of_beq_false hc2
     intro h3
     apply h
     have h2:((bitN (nV bs) m:Nat):Int)=0:=by rw[h3];rfl
     exact(ht (nV bs)).trans h2
    have hst:=qmx hz
    cbv
    refine hQ n _ _ _ ⟨⟨hv,.inr (by rw[show n-1=m by omega];exact hst)⟩,hn⟩ ?_
    exact⟨rfl,rfl⟩
  ·intro hc
   have hc' : ¬ 0<n:=by
    rw[hΩ]at hc
    have h : ¬ (n:Int) > 0:=of_decide_eq_false hc
    omega
   cbv
   refine hQ n _ _ _ ⟨⟨hv,.inl (by omega)⟩,hn⟩ ?_
   exact⟨rfl,rfl⟩
end Go.Sx.Tryz
end
section
set_option maxHeartbeats 4000000
namespace Go.Sx.Tryz
open Go.Proofs
set_option maxRecDepth 40000
def qf5 (Ω:Om):qe:=fun args=>match args with
 | [.roi .u8 xs,.roi .u8 ys]=>⟨∀ _:Unit,nV ys<=nV xs/\(xs.length<140737488355328/\ys.length<140737488355328)/\Byt xs/\Byt ys,List Int × Nat,fun z=>nV z.1=nV xs-nV ys/\Byt z.1/\z.1.length<=xs.length/\z.1.length<=z.2,fun z =>.fr .u8 z.1 z.2⟩
 | _=>PR.none
noncomputable def qr0:List (FuncId × Func):=[(199,Tryz.f199)]
theorem qr1:Ctr Tryz.prog T glob 186 (qf5 Om.real):=by
 refine qq T_ok qf qg (fun Ω=>[(209,qeh Ω)]) qr0 (fun Ω=>[]) [] (qc qmH qh) (qE Tryz.call199 Tryz.func199 (by kernel_rfl) qi) qk ql Tryz.func186 (by rfl) (by kernel_rfl) Tryz.call186 ?_ ?_
 ·intro args;unfold qf5;split
  ·exact qav ⟨trivial,trivial,trivial⟩ fun h=>qrp (Nat.lt_of_le_of_lt (Nat.sub_le _ _) (qcl (h ()).2.2.1))
  ·exact PR.good_none
 ·intro P Ω hΩ hE hI hm args pr hs hp Q hQ
  unfold qf5 at hs
  split at hs<;>subst hs<;>try (exact hp.elim)
  rename_i xs ys
  obtain⟨hle,⟨lx,ly⟩,bx,bys⟩:=hp ()
  refine⟨1000,?_⟩
  cbv
  refine qn hE hI hm (fun z:Nat × List Int × Nat × Nat × Nat=>(mkT 35 [(0,.roi .u8 xs),(1,.roi .u8 ys),(4,.val (.slice none 0 0)),(5,.sl 32 1 (.l 0) (.s z.2.2.1) (.s z.2.2.2.1)),(6,.int .i64 z.2.2.2.2),(7,.int .i64 z.1)],[(32,.seq .u8 z.2.1)])) (fun z=>z.1<=xs.length/\z.2.1.length=z.1/\z.2.2.1=z.1/\z.2.2.1<=z.2.2.2.1/\z.2.2.2.2<=1/\Byt z.2.1/\((nV z.2.1:Nat):Int)=nV (xs.take z.1)-nV (ys.take z.1)+z.2.2.2.2*256^z.1) (fun z=>xs.length-z.1) 1 ⟨(0,[],0,0,0),[none],⟨Nat.zero_le _,rfl,rfl,Nat.le_refl _,by show 0<=1;decide,(fun a ha=>by cases ha),rfl⟩,by decide,?_⟩ fun z hz=>⟨1000,?_⟩
  ·cbv
   exact⟨rfl,rfl⟩
  obtain⟨i,u,n,c,l⟩:=z
  obtain⟨hi,hul,hn,hc,hl1,hub,hv⟩:i<=xs.length/\u.length=i/\n=i/\n<=c/\l<=1/\Byt u/\((nV u:Nat):Int)=nV (xs.take i)-nV (ys.take i)+l*256^i:=hz
  cbv
  constructor
  ·intro hc2
   cbv
   rw[hΩ]at hc2;simp (disch:=omega) only[Om.real,qb,decide_eq_true_eq,decide_eq_false_iff_not]at hc2
   have gx:=qd7 bx i
   have gy:=qd7 bys i
   constructor
   ·exact fun _ _=>⟨Int.natCast_nonneg i,by omega,bx⟩
   intro _ _
   cbv
   constructor
   ·exact fun _ _=>⟨Int.natCast_nonneg i,by omega,bys⟩
   intro _ _
   cbv
   obtain⟨d,hd⟩ : ∃ d,d=xs.getD i 0-ys.getD i 0-l:=⟨_,rfl⟩
   have ed:binL .sub .i64 (binL .sub .i64 (xs.getD i 0) (ys.getD i 0)) (l:Int)=d:=by
    rw[qad (a:=xs.getD i 0) (b:=ys.getD i 0) (by omega) (by omega),qad (by omega) (by omega),hd]
   have hst:=qrr bx bys hl1 hub hul hv hd
   constructor
   ·intro hc3
    have hd0:d<0:=by
     subst hΩ
     have h:=of_decide_eq_true hc3
     have h2:binL .sub .i64 (binL .sub .i64 (xs.getD i 0) (ys.getD i 0)) (l:Int)<0:=h
     rw[ed]at h2;exact h2
    obtain⟨q1,q2⟩:=hst.1 hd0
    have ed2:binL .add .i64 d 256=d+256:=qF (by omega) (by omega)
    obtain⟨u2,hu2⟩ : ∃ u2,u2=u++[d+256]:=⟨_,rfl⟩
    rw[<- hu2]at q1 q2
    have hu2l:u2.length=i+1:=by rw[hu2,List.length_append,hul];rfl
    have hdb:0<=d+256/\d+256<256:=by omega
    cbv
    constructor
    ·exact fun _=>(show(n+1)*1<=140737488355328 by omega)
    constructor
    ·exact fun _=>⟨(show 0+n*1<=u.length by omega),(show 0+1*1<=1 by omega)⟩
    intro cap hcap
    have hcap:n+1<=cap:=hcap
    cbv
    obtain⟨n2,hn2⟩ : ∃ n2,n2=n+1:=⟨_,rfl⟩
    refine⟨(i+1,u2,n2,cap,1),[some 240],⟨hc2,hu2l,(by show n2=i+1;omega),(by show n2<=cap;omega),Nat.le_refl _,q1,q2⟩,by simp only;omega,by decide,?_⟩
    cbv
    subst hΩ
    refine⟨hn2.symm,rfl,?_,?_⟩
    ·show binL .add .i64 (i:Int) 1=((i+1:Nat):Int)
     rw[qF (by omega) (by omega)];omega
    ·show(u.drop 0).take n++[IntKind.u8.wrap (binL .add .i64 (binL .sub .i64 (binL .sub .i64 (xs.getD i 0) (ys.getD i 0)) (l:Int)) 256)]=u2
     have ed:binL .sub .i64 (binL .sub .i64 (xs.getD i 0) (ys.getD i 0)) (l:Int)=d:=ed
     rw[ed,ed2,List.drop_zero,List.take_of_length_le (by omega),hu2,IntKind.wrap_u8,Int.emod_eq_of_lt hdb.1 hdb.2]
   ·intro hc3
    have hd0 : ¬ d<0:=by
     subst hΩ
     have h:=of_decide_eq_false hc3
     have h2 : ¬ binL .sub .i64 (binL .sub .i64 (xs.getD i 0) (ys.getD i 0)) (l:Int)<0:=h
     rw[ed]at h2;exact h2
    obtain⟨q1,q2⟩:=hst.2 hd0
    obtain⟨u2,hu2⟩ : ∃ u2,u2=u++[d]:=⟨_,rfl⟩
    rw[<- hu2]at q1 q2
    have hu2l:u2.length=i+1:=by rw[hu2,List.length_append,hul];rfl
    have hdb:0<=d/\d<256:=by omega
    cbv
    constructor
    ·exact fun _=>(show(n+1)*1<=140737488355328 by omega)
    constructor
    ·exact fun _=>⟨(show 0+n*1<=u.length by omega),(show 0+1*1<=1 by omega)⟩
    intro cap hcap
    have hcap:n+1<=cap:=hcap
    cbv
    obtain⟨n2,hn2⟩ : ∃ n2,n2=n+1:=⟨_,rfl⟩
    refine⟨(i+1,u2,n2,cap,0),[some 208],⟨hc2,hu2l,(by show n2=i+1;omega),(by show n2<=cap;omega),Nat.zero_le _,q1,q2⟩,by simp only;omega,by decide,?_⟩
    cbv
    subst hΩ
    refine⟨hn2.symm,rfl,?_,?_⟩
    ·show binL .add .i64 (i:Int) 1=((i+1:Nat):Int)
     rw[qF (by omega) (by omega)];omega
    ·show(u.drop 0).take n++[IntKind.u8.wrap (binL .sub .i64 (binL .sub .i64 (xs.getD i 0) (ys.getD i 0)) (l:Int))]=u2
     have ed:binL .sub .i64 (binL .sub .i64 (xs.getD i 0) (ys.getD i 0)) (l:Int)=d:=ed
     rw[ed,List.drop_zero,List.take_of_length_le (by omega),hu2,IntKind.wrap_u8,Int.emod_eq_of_lt hdb.1 hdb.2]
  ·intro hc2
   cbv
   rw[hΩ]at hc2;simp (disch:=omega) only[Om.real,qb,decide_eq_true_eq,decide_eq_false_iff_not]at hc2
   have hix:i=xs.length:=by omega
   have hu:=qrs bx bys hub (hul.trans hix) (by rw[<- hix];exact hv) hle
   have hul:u.length=n:=by omega
   refine qn hE hI hm (fun z:Nat=>(mkT 21 [(0,.sl 32 1 (.l 0) (.s n) (.s c)),(2,.val (.slice none 0 0)),(3,.int .i64 z)],[(32,.seq .u8 u)])) (fun z=>z<=n/\nV (u.take z)=nV u) (fun z=>z) 0 ⟨n,[],⟨Nat.le_refl _,by rw[List.take_of_length_le (by omega)]⟩,Nat.zero_le _,?_⟩ fun k hz=>⟨1000,?_⟩
   ·cbv
    subst hΩ
    exact⟨rfl,trivial⟩
   obtain⟨hk,hkv⟩:k<=n/\nV (u.take k)=nV u:=hz
   cbv
   constructor
   ·intro hc3
    have hk0:0<k:=by
     rw[hΩ]at hc3
     have h:(k:Int) > 0:=of_decide_eq_true hc3
     omega
    obtain⟨m,hm1⟩ : ∃ m,k=m+1:=⟨k-1,by omega⟩
    have es:binL .sub .i64 (k:Int) 1=(m:Int):=by rw[qad (by omega) (by omega)];omega
    cbv
    constructor
    ·intro _
     subst hΩ
     have es:binL .sub .i64 (k:Int) 1=(m:Int):=es
     show 0<=binL .sub .i64 (k:Int) 1/\binL .sub .i64 (k:Int) 1<(n:Int)
     rw[es];omega
    constructor
    ·intro _
     subst hΩ
     have es:binL .sub .i64 (k:Int) 1=(m:Int):=es
     show(binL .sub .i64 (k:Int) 1).toNat+1<=u.length
     rw[es,Int.toNat_natCast];omega
    constructor
    ·intro hc4
     have hz:u.getD m 0=0:=by
      subst hΩ
      have es:binL .sub .i64 (k:Int) 1=(m:Int):=es
      have h:u.getD (binL .sub .i64 (k:Int) 1).toNat 0=0:=eq_of_beq hc4
      rw[es,Int.toNat_natCast]at h;exact h
     have hst:=qrm hub hz (by rw[<- hm1];exact hkv)
     cbv
     refine⟨m,[],⟨by omega,hst⟩,by omega,Nat.zero_le _,?_⟩
     cbv
     subst hΩ
     have es:binL .sub .i64 (k:Int) 1=(m:Int):=es
     exact⟨es,trivial⟩
    ·intro hc4
     cbv
     constructor
     ·intro _
      refine⟨trivial,(show(0:Int)<=(k:Int)by omega),trivial,Nat.zero_le _,?_,Nat.le_refl _⟩
      subst hΩ
      show(k:Int).toNat<=c
      omega
     refine hQ (u.take k,c) _ _ _ ?_ ?_
     ·refine⟨hkv.trans hu,qfG hub k,?_,?_⟩
      ·show(u.take k).length<=xs.length;rw[List.length_take];omega
      ·show(u.take k).length<=c;rw[List.length_take];omega
     ·subst hΩ
      refine⟨rfl,rfl,?_,?_⟩
      ·show 0+k<=u.length;omega
      ·show u.take k=(u.drop 0).take k
       rw[List.drop_zero]
   ·intro hc3
    cbv
    constructor
    ·intro _
     refine⟨trivial,(show(0:Int)<=(k:Int)by omega),trivial,Nat.zero_le _,?_,Nat.le_refl _⟩
     subst hΩ
     show(k:Int).toNat<=c
     omega
    refine hQ (u.take k,c) _ _ _ ?_ ?_
    ·refine⟨hkv.trans hu,qfG hub k,?_,?_⟩
     ·show(u.take k).length<=xs.length;rw[List.length_take];omega
     ·show(u.take k).length<=c;rw[List.length_take];omega
    ·subst hΩ
     refine⟨rfl,rfl,?_,?_⟩
     ·show 0+k<=u.length;omega
     ·show u.take k=(u.drop 0).take k
      rw[List.drop_zero]
end Go.Sx.Tryz
end
section

end
