/-
  Part of the proof of a statement: the means.
-/
import Derived.Test.YtpnebmmjpapopaaGreatDoorX4
import Derived.Test.YtpnebmmjpapopaaGreatDoorX17
import Derived.Test.YtpnebmmjpapopaaGreatDoorX15
set_option linter.unusedSectionVars false
set_option linter.unusedVariables false
set_option linter.unusedSimpArgs false
set_option linter.deprecated false
section
set_option maxHeartbeats 4000000
namespace Go.Sx
theorem qsd {a:Int} (h:0<=a/\a<256):binL .or .u8 (binL .and .u8 a 252) 0=a / 4*4:=by
 obtain⟨n,rfl⟩ : ∃ n:Nat,a=n:=⟨a.toNat,by omega⟩
 have : ∀ n,n<256->binL .or .u8 (binL .and .u8 ((n:Nat):Int) 252) 0=((n:Nat):Int) / 4*4:=by decide +kernel
 exact this n (by omega)
theorem qse {a:Int} (h:0<=a/\a<256):binL .or .u8 (binL .and .u8 a 255) 128=a % 128+128:=by
 obtain⟨n,rfl⟩ : ∃ n:Nat,a=n:=⟨a.toNat,by omega⟩
 have : ∀ n,n<256->binL .or .u8 (binL .and .u8 ((n:Nat):Int) 255) 128=((n:Nat):Int) % 128+128:=by decide +kernel
 exact this n (by omega)
theorem qsf {a:Int} (h:0<=a/\a<256):binL .or .u8 (binL .and .u8 a 0) 0=0:=by
 obtain⟨n,rfl⟩ : ∃ n:Nat,a=n:=⟨a.toNat,by omega⟩
 have : ∀ n,n<256->binL .or .u8 (binL .and .u8 ((n:Nat):Int) 0) 0=0:=by decide +kernel
 exact this n (by omega)
theorem qsg {a:Int} (h:0<=a/\a<256):binL .mul .u8 (binL .quo .u8 a 4) 4=a / 4*4:=by
 obtain⟨n,rfl⟩ : ∃ n:Nat,a=n:=⟨a.toNat,by omega⟩
 have : ∀ n,n<256->binL .mul .u8 (binL .quo .u8 ((n:Nat):Int) 4) 4=((n:Nat):Int) / 4*4:=by decide +kernel
 exact this n (by omega)
theorem qsh {a:Int} (h:0<=a/\a<256):binL .add .u8 (binL .rem .u8 a 128) 128=a % 128+128:=by
 obtain⟨n,rfl⟩ : ∃ n:Nat,a=n:=⟨a.toNat,by omega⟩
 have : ∀ n,n<256->binL .add .u8 (binL .rem .u8 ((n:Nat):Int) 128) 128=((n:Nat):Int) % 128+128:=by decide +kernel
 exact this n (by omega)
def qac (bs:List Int):List Int:=((bs.set 0 (bs.getD 0 0 / 4*4)).set 55 (bs.getD 55 0 % 128+128)).set 56 0
theorem qsi {bs:List Int} (h:Byt bs) (hl:bs.length=57):((bs.set 56 (binL .or .u8 (binL .and .u8 (bs.getD 56 0) 0) 0)).set 0 (binL .or .u8 (binL .and .u8 ((bs.set 56 (binL .or .u8 (binL .and .u8 (bs.getD 56 0) 0) 0)).getD 0 0) 252) 0)).set 55 (binL .or .u8 (binL .and .u8 (((bs.set 56 (binL .or .u8 (binL .and .u8 (bs.getD 56 0) 0) 0)).set 0 (binL .or .u8 (binL .and .u8 ((bs.set 56 (binL .or .u8 (binL .and .u8 (bs.getD 56 0) 0) 0)).getD 0 0) 252) 0)).getD 55 0) 255) 128)=qac bs:=by
 have g : ∀ i,i<57->0<=bs.getD i 0/\bs.getD i 0<256:=by
  intro i hi
  rw[List.getD_eq_getElem?_getD,List.getElem?_eq_getElem (by omega)]
  exact h _ (List.getElem_mem _)
 have e0 : ∀ v:Int,(bs.set 56 v).getD 0 0=bs.getD 0 0:=fun v=>by
  rw[List.getD_eq_getElem?_getD,List.getD_eq_getElem?_getD,List.getElem?_set_ne (by decide)]
 have e55 : ∀ v u:Int,((bs.set 56 v).set 0 u).getD 55 0=bs.getD 55 0:=fun v u=>by
  rw[List.getD_eq_getElem?_getD,List.getD_eq_getElem?_getD,List.getElem?_set_ne (by decide),List.getElem?_set_ne (by decide)]
 rw[e0,e55,qsf (g 56 (by decide)),qsd (g 0 (by decide)),qse (g 55 (by decide))]
 unfold qac
 rw[List.set_comm _ _ (show(56:Nat) ≠ 0 by decide),List.set_comm _ _ (show(56:Nat) ≠ 55 by decide)]
theorem qc3 (bs:List Int):(qac bs).length=bs.length:=by simp[qac]
theorem qmI {bs:List Int} (h:Byt bs):Byt (qac bs):=by
 have g : ∀ i,0<=bs.getD i 0/\bs.getD i 0<256:=by
  intro i
  by_cases hi:i<bs.length
  ·rw[List.getD_eq_getElem?_getD,List.getElem?_eq_getElem hi]
   exact h _ (List.getElem_mem hi)
  ·rw[List.getD_eq_getElem?_getD,List.getElem?_eq_none (by omega)]
   exact⟨by decide,by decide⟩
 intro a ha
 unfold qac at ha
 rcases List.mem_or_eq_of_mem_set ha with ha|rfl
 ·rcases List.mem_or_eq_of_mem_set ha with ha|rfl
  ·rcases List.mem_or_eq_of_mem_set ha with ha|rfl
   ·exact h a ha
   ·have:=g 0;omega
  ·have:=g 55;omega
 ·omega
def domE (f:Int) (cx:List Int):Int:=if f=0\/f=1 then (if 255<cx.length then 21 else 0) else 1
def domB (f:Int) (cx:List Int):List Int:=[83,105,103,69,100,52,52,56]++[f,(cx.length:Int)]++cx
theorem qcp (f:Int) (cx:List Int):(domB f cx).length=10+cx.length:=by simp[domB];omega
end Go.Sx
namespace Go.Sx.Tryz
open Go.Proofs
set_option maxRecDepth 40000
def qei (Ω:Om):qe:=fun args=>match args with
 | [.roi .u8 xs]=>⟨∀ _:Unit,xs.length<=140737488355328,List Int × Nat,fun z=>z.1=xs/\z.1.length<=z.2,fun z =>.fr .u8 z.1 z.2⟩
 | _=>PR.none
theorem qmJ:Ctr Tryz.prog T glob 71 (qei Om.real):=by
 refine qq T_ok qf qg (fun Ω=>[]) [] (fun Ω=>[]) [] qh qi qk ql Tryz.func71 (by rfl) (by kernel_rfl) Tryz.call71 ?_ ?_
 ·intro args;unfold qei;split
  ·exact qav ⟨trivial,trivial⟩ fun _=>qaM _
  ·exact PR.good_none
 ·intro P Ω hΩ hE hI hm args pr hs hp Q hQ
  unfold qei at hs
  split at hs<;>subst hs<;>try (exact hp.elim)
  rename_i xs
  have lx:=hp ()
  refine⟨1000,?_⟩
  conv=>cbv
  intro q hq
  conv=>cbv
  constructor
  ·intro h
   cbv
   refine hQ ([],0) _ _ _ ⟨(hq h).symm,Nat.le_refl _⟩ ?_
   subst hΩ
   exact⟨rfl,rfl⟩
  ·intro h
   cbv
   constructor
   ·exact fun _=>by subst hΩ;show(0+xs.length)*1<=140737488355328;omega
   constructor
   ·exact fun _=>⟨by show 0+0<=0;omega,trivial⟩
   intro cap hcap
   conv=>cbv
   have e:Ω.len xs=xs.length:=by subst hΩ;rfl
   have hcap:0+Ω.len xs<=cap:=hcap
   have hle:xs.length<=cap:=by omega
   have hcx:Ω.cat [] xs=xs:=by subst hΩ;rfl
   refine hQ (xs,cap) _ _ _ ⟨rfl,hle⟩ ?_
   subst hΩ
   exact⟨rfl,rfl,by show 0+xs.length<=([]++xs).length;rw[List.nil_append];omega,by show xs=(([]++xs).drop 0).take xs.length;rw[List.nil_append,List.drop_zero,List.take_length]⟩
def qgh (Ω:Om):qe:=fun args=>match args with
 | [.roi .u8 bs]=>⟨∀ _:Unit,Byt bs/\bs.length=57,List Int × Nat,fun z=>z.1=qac bs/\z.1.length<=z.2,fun z =>.tup [.fr .u8 z.1 z.2,.int .i64 0]⟩
 | _=>PR.none
noncomputable def qsj:List (FuncId × Func):=[(159,Tryz.f159)]
theorem qsk:Ctr Tryz.prog T glob 67 (qgh Om.real):=by
 refine qq T_ok qf qg (fun Ω=>[(71,qei Ω)]) qsj (fun Ω=>[]) [] (qc qmJ qh) (qE Tryz.call159 Tryz.func159 (by kernel_rfl) qi) qk ql Tryz.func67 (by rfl) (by kernel_rfl) Tryz.call67 ?_ ?_
 ·intro args;unfold qgh;split
  ·exact qfI ⟨trivial,trivial⟩ fun _=>qaM _
  ·exact PR.good_none
 ·intro P Ω hΩ hE hI hm args pr hs hp Q hQ
  unfold qgh at hs
  split at hs<;>subst hs<;>try (exact hp.elim)
  rename_i bs
  obtain⟨hb,hl⟩:=hp ()
  refine⟨1000,?_⟩
  conv=>cbv
  constructor
  ·exact fun _ _=>(show bs.length<=140737488355328 by omega)
  intro z hz
  obtain⟨cl,cc⟩:=z
  have hz:cl=bs/\cl.length<=cc:=hz
  have hcl:cl.length=57:=by rw[hz.1];exact hl
  conv=>cbv
  constructor
  rotate_left
  ·intro h
   have h':False:=by (subst hΩ;have h2:=ne_of_beq_false h;exact h2 (show((bs.length:Nat):Int)=57 by omega));first|done|(subst hΩ;exact Bool.noConfusion (show true=false from h))
   contradiction
  intro _
  conv=>cbv
  repeat (constructor;first|exact fun _=>(by subst hΩ;show(56:Nat)<cl.length;omega)|exact fun _=>(by subst hΩ;show 56+1<=cl.length;omega)|exact fun _=>(by subst hΩ;show(0:Nat)<cl.length;omega)|exact fun _=>(by subst hΩ;show 0+1<=(List.set cl _ _).length;rw[List.length_set];omega)|exact fun _=>(by subst hΩ;show(55:Nat)<cl.length;omega)|exact fun _=>(by subst hΩ;show 55+1<=(List.set (List.set cl _ _) _ _).length;rw[List.length_set,List.length_set];omega))
  refine hQ (qac bs,cc) _ _ _ ⟨rfl,by rw[qc3,<- hz.1];exact hz.2⟩ ?_
  subst hΩ
  have e:((cl.set 56 (binL .or .u8 (binL .and .u8 (cl.getD 56 0) 0) 0)).set 0 (binL .or .u8 (binL .and .u8 ((cl.set 56 (binL .or .u8 (binL .and .u8 (cl.getD 56 0) 0) 0)).getD 0 0) 252) 0)).set 55 (binL .or .u8 (binL .and .u8 (((cl.set 56 (binL .or .u8 (binL .and .u8 (cl.getD 56 0) 0) 0)).set 0 (binL .or .u8 (binL .and .u8 ((cl.set 56 (binL .or .u8 (binL .and .u8 (cl.getD 56 0) 0) 0)).getD 0 0) 252) 0)).getD 55 0) 255) 128)=qac bs:=by
   rw[hz.1]
   exact qsi hb hl
  obtain⟨c3,hc3⟩ : ∃ c3,c3=((cl.set 56 (binL .or .u8 (binL .and .u8 (cl.getD 56 0) 0) 0)).set 0 (binL .or .u8 (binL .and .u8 ((cl.set 56 (binL .or .u8 (binL .and .u8 (cl.getD 56 0) 0) 0)).getD 0 0) 252) 0)).set 55 (binL .or .u8 (binL .and .u8 (((cl.set 56 (binL .or .u8 (binL .and .u8 (cl.getD 56 0) 0) 0)).set 0 (binL .or .u8 (binL .and .u8 ((cl.set 56 (binL .or .u8 (binL .and .u8 (cl.getD 56 0) 0) 0)).getD 0 0) 252) 0)).getD 55 0) 255) 128):=⟨_,rfl⟩
  rw[<- hc3]at e
  have hc3l:c3.length=57:=by rw[e,qc3];exact hl
  refine⟨⟨⟨rfl,rfl,?_,?_⟩,⟨rfl,rfl⟩,trivial⟩,rfl,rfl⟩
  ·refine Nat.le_trans (show 0+cl.length<=c3.length by omega) (Nat.le_of_eq ?_)
   rw[hc3]
   rfl
  ·refine(show qac bs=(c3.drop 0).take cl.length by rw[List.drop_zero,List.take_of_length_le (by omega)];exact e.symm).trans ?_
   rw[hc3]
   rfl
end Go.Sx.Tryz
end
section
set_option maxHeartbeats 4000000
namespace Go.Sx.Tryz
open Go.Proofs
set_option maxRecDepth 40000
theorem qiG {xss:List (List Int)} {i:Nat} (h:i<xss.length):(xss.take (i+1)).flatten=(xss.take i).flatten++xss.getD i []:=by
 rw[List.take_succ_eq_append_getElem h,List.flatten_append]
 simp[List.getD,h]
theorem qiH (xss:List (List Int)) (i:Nat):(xss.take i).flatten.length<=xss.flatten.length:=by
 have e:xss.flatten=(xss.take i).flatten++(xss.drop i).flatten:=by rw[<- List.flatten_append,List.take_append_drop]
 rw[e,List.length_append];omega
def qgi (Ω:Om):qe:=fun args=>match args with
 | [.rol .u8 xss]=>⟨∀ _:Unit,xss.length<100000/\xss.flatten.length<=100000000,List Int × Nat,fun z=>z.1=xss.flatten/\z.1.length<=z.2,fun z =>.fr .u8 z.1 z.2⟩
 | _=>PR.none
noncomputable def qsl:List (FuncId × Func):=[(155,Tryz.f155)]
theorem qsm:Ctr Tryz.prog T glob 65 (qgi Om.real):=by
 refine qq T_ok qf qg (fun Ω=>[]) qsl (fun Ω=>[]) [] qh (qE Tryz.call155 Tryz.func155 (by kernel_rfl) qi) qk ql Tryz.func65 (by rfl) (by kernel_rfl) Tryz.call65 ?_ ?_
 ·intro args;unfold qgi;split
  ·exact qav ⟨trivial,trivial⟩ fun _=>qaM _
  ·exact PR.good_none
 ·intro P Ω hΩ hE hI hm args pr hs hp Q hQ
  unfold qgi at hs
  split at hs<;>subst hs<;>try (exact hp.elim)
  rename_i xss
  obtain⟨h1,h2⟩:=hp ()
  obtain⟨L,hL⟩ : ∃ L,xss.length=L:=⟨_,rfl⟩
  have hL2:Ω.len2 xss=L:=by rw[hΩ];exact hL
  conv at hL2=>lhs;cbv
  refine⟨1000,?_⟩
  conv=>cbv
  rw[hL2]
  refine qn hE hI hm (fun z:Nat × Int=>(mkT 36 [(0,.rol .u8 xss),(2,.val (.slice none 0 0)),(3,.int .i64 z.2),(9,.rol .u8 xss),(10,.int .i64 (Ω.ofN L)),(11,.int .i64 z.1)],[])) (fun z=>z.1<=L/\z.2=(((xss.take z.1).flatten.length:Nat):Int)) (fun z=>L-z.1) 0 ⟨(0,0),[],⟨Nat.zero_le _,rfl⟩,Nat.zero_le _,?_⟩ fun z hz=>⟨1000,?_⟩
  ·conv=>cbv
   rfl
  obtain⟨i,sz⟩:=z
  obtain⟨hi,hsz⟩:i<=L/\sz=(((xss.take i).flatten.length:Nat):Int):=hz
  conv=>cbv
  constructor
  ·intro hc
   have hlt:i<L:=by
    subst hΩ
    have h2:((i:Nat):Int)<((L:Nat):Int):=of_decide_eq_true hc
    omega
   obtain⟨bb,hbb⟩ : ∃ bb,xss.getD i []=bb:=⟨_,rfl⟩
   have hAt:Ω.at2 xss (Ω.toN (Int.ofNat i))=bb:=by rw[hΩ];exact hbb
   have hfl:=qiG (xss:=xss) (i:=i) (by omega)
   rw[hbb]at hfl
   have hle:=qiH xss (i+1)
   obtain⟨sz2,hs2⟩ : ∃ sz2,Ω.bin .add .i64 sz (Ω.ofN (Ω.len bb))=sz2:=⟨_,rfl⟩
   have es2:sz2=(((xss.take (i+1)).flatten.length:Nat):Int):=by
    rw[<- hs2,hΩ,hsz]
    show binL .add .i64 (((xss.take i).flatten.length:Nat):Int) ((bb.length:Nat):Int)=_
    rw[hfl,List.length_append]at hle ⊢
    rw[qF (by omega) (by omega)]
    omega
   obtain⟨i2,hi2⟩ : ∃ i2,Ω.bin .add .i64 (Int.ofNat i) 1=i2:=⟨_,rfl⟩
   have ei2:i2=((i+1:Nat):Int):=by
    rw[<- hi2,hΩ]
    show binL .add .i64 (i:Int) 1=_
    rw[qF (by omega) (by omega)];omega
   conv at hAt=>lhs;cbv
   conv at hs2=>lhs;cbv
   conv at hi2=>lhs;cbv
   conv=>cbv
   constructor
   ·exact fun _=>⟨Int.natCast_nonneg i,by subst hΩ;show(i:Int)<((xss.length:Nat):Int);omega⟩
   constructor
   ·exact fun _=>by subst hΩ;show i<xss.length;omega
   rw[hAt]
   rw[hs2]
   constructor
   ·intro h
    have h':False:=by (subst hΩ;have h2:=of_decide_eq_true h;change sz2<0 at h2;omega);first|done|(subst hΩ;exact Bool.noConfusion (show false=true from h))
    contradiction
   intro _
   conv=>cbv
   rw[hi2]
   refine⟨(i+1,sz2),[],⟨by show i+1<=L;omega,es2⟩,by show L-(i+1)<L-i;omega,Nat.zero_le _,?_⟩
   conv=>cbv
   exact ei2
  ·intro hc
   have hiL:i=L:=by
    subst hΩ
    have h2 : ¬ ((i:Nat):Int)<((L:Nat):Int):=of_decide_eq_false hc
    omega
   conv=>cbv
   rw[hiL,<- hL,List.take_length]at hsz
   constructor
   ·intro h
    have h':False:=by (subst hΩ;have h2:=of_decide_eq_true h;change sz<0 at h2;omega);first|done|(subst hΩ;exact Bool.noConfusion (show false=true from h))
    contradiction
   intro _
   conv=>cbv
   constructor
   ·intro hpos
    have h0:0<sz:=by
     subst hΩ
     have h2:binL .sub .i64 sz 0 > 0:=of_decide_eq_true hpos
     rw[qad (by omega) (by omega)]at h2
     omega
    have e0:Ω.bin .sub .i64 sz 0=sz:=by
     rw[hΩ]
     show binL .sub .i64 sz 0=sz
     rw[qad (by omega) (by omega)];omega
    conv at e0=>lhs;cbv
    conv=>cbv
    constructor
    ·exact fun _=>⟨trivial,trivial,trivial,Nat.le_refl _,Nat.le_refl _,Nat.le_refl _⟩
    rw[e0]
    constructor
    ·exact fun _=>⟨h0,(show 1*sz.toNat<=140737488355328 by omega),by omega⟩
    intro cap0 hcap0
    conv=>cbv
    constructor
    ·exact fun _=>⟨trivial,trivial,trivial,Nat.le_refl _,Nat.zero_le _,Nat.le_refl _⟩
    obtain⟨Z0,hZ0⟩ : ∃ Z0,Z0=Ω.zer (Ω.toN sz):=⟨_,rfl⟩
    refine qn hE hI hm (fun z:Nat × List Int × Nat × Nat=>(mkT 36 [(6,.sl 296 1 (.l 0) (.s z.2.2.1) (.s z.2.2.2)),(25,.rol .u8 xss),(26,.int .i64 (Ω.ofN (Ω.len2 xss))),(27,.int .i64 z.1)],[(296,.seq .u8 z.2.1)])) (fun z=>(z.1<=L/\(z.2.1.drop 0).take z.2.2.1=(xss.take z.1).flatten)/\z.2.2.1<=z.2.1.length/\z.2.2.1<=z.2.2.2/\z.2.2.1=(xss.take z.1).flatten.length) (fun z=>L-z.1) 1 ⟨(0,Z0,0,cap0),[some 216],⟨⟨Nat.zero_le _,by simp⟩,Nat.zero_le _,Nat.zero_le _,rfl⟩,by decide,?_⟩ fun z hz=>⟨1000,?_⟩
    ·conv=>cbv
     exact⟨rfl,hZ0.symm⟩
    obtain⟨j,al,ln,cp⟩:=z
    obtain⟨⟨hj,hal⟩,hln,hcp,hlf⟩:(j<=L/\(al.drop 0).take ln=(xss.take j).flatten)/\ln<=al.length/\ln<=cp/\ln=(xss.take j).flatten.length:=hz
    conv=>cbv
    constructor
    ·intro hc3
     have hlt:j<L:=by
      subst hΩ
      have h2:((j:Nat):Int)<((xss.length:Nat):Int):=of_decide_eq_true hc3
      omega
     obtain⟨bb,hbb⟩ : ∃ bb,xss.getD j []=bb:=⟨_,rfl⟩
     have hAt:Ω.at2 xss (Ω.toN (Int.ofNat j))=bb:=by rw[hΩ];exact hbb
     have hfl:=qiG (xss:=xss) (i:=j) (by omega)
     rw[hbb]at hfl
     have hle:=qiH xss (j+1)
     rw[hfl,List.length_append]at hle
     obtain⟨a2,ha2⟩ : ∃ a2,a2=(xss.take j).flatten++bb:=⟨_,rfl⟩
     obtain⟨l2,hl2⟩ : ∃ l2,l2=ln+bb.length:=⟨_,rfl⟩
     have f0:Ω.nadd ln (Ω.len bb)=l2:=by rw[hl2,hΩ];rfl
     have f1:Ω.cat (Ω.sub al 0 ln) bb=a2:=by
      rw[ha2,hΩ,<- hal]
      rfl
     have ha2l:a2.length=l2:=by rw[ha2,List.length_append,hl2,hlf]
     obtain⟨i2,hi2⟩ : ∃ i2,Ω.bin .add .i64 (Int.ofNat j) 1=i2:=⟨_,rfl⟩
     have ei2:i2=((j+1:Nat):Int):=by
      rw[<- hi2,hΩ]
      show binL .add .i64 (j:Int) 1=_
      rw[qF (by omega) (by omega)];omega
     conv at hAt=>lhs;cbv
     conv at hi2=>lhs;cbv
     conv=>cbv
     constructor
     ·exact fun _=>(by subst hΩ;show 0<=(j:Int)/\(j:Int)<((xss.length:Nat):Int);omega)
     constructor
     ·exact fun _=>(by subst hΩ;show j<xss.length;omega)
     rw[hAt]
     constructor
     ·exact fun _=>(by subst hΩ;show(ln+bb.length)*1<=140737488355328;omega)
     constructor
     ·exact fun _=>⟨(by show 0+ln*1<=al.length;omega),trivial⟩
     intro cap2 hcap2
     have hcap3:l2<=cap2:=by rw[hl2];subst hΩ;exact hcap2
     conv=>cbv
     rw[hi2]
     refine⟨(j+1,a2,l2,cap2),[some 352],⟨⟨by show j+1<=L;omega,by show(a2.drop 0).take l2=(xss.take (j+1)).flatten;rw[hfl,List.drop_zero,List.take_of_length_le (by omega),ha2]⟩,by show l2<=a2.length;omega,hcap3,by show l2=(xss.take (j+1)).flatten.length;rw[hfl,List.length_append,hl2,hlf]⟩,by show L-(j+1)<L-j;omega,by decide,?_⟩
     conv=>cbv
     exact⟨f0,ei2,f1⟩
    ·intro hc3
     have hjL:j=L:=by
      subst hΩ
      have h2 : ¬ ((j:Nat):Int)<((xss.length:Nat):Int):=of_decide_eq_false hc3
      omega
     rw[hjL,<- hL,List.take_length]at hal hlf
     conv=>cbv
     refine hQ (xss.flatten,cp) _ _ _ ⟨rfl,by show xss.flatten.length<=cp;omega⟩ ?_
     subst hΩ
     refine⟨rfl,rfl,by show 0+ln<=al.length;omega,?_⟩
     exact hal.symm
   ·intro hpos
    cbv
    refine qn hE hI hm (fun z:Nat × List Int × Nat × Nat=>(mkT 36 [(6,.sl 216 1 (.l 0) (.s z.2.2.1) (.s z.2.2.2)),(25,.rol .u8 xss),(26,.int .i64 (Ω.ofN (Ω.len2 xss))),(27,.int .i64 z.1)],[(216,.seq .u8 z.2.1)])) (fun z=>(z.1<=L/\(z.2.1.drop 0).take z.2.2.1=(xss.take z.1).flatten)/\z.2.2.1<=z.2.1.length/\z.2.2.1<=z.2.2.2/\z.2.2.1=(xss.take z.1).flatten.length) (fun z=>L-z.1) 1 ⟨(0,[],0,0),[none],⟨⟨Nat.zero_le _,rfl⟩,Nat.le_refl _,Nat.le_refl _,rfl⟩,by decide,?_⟩ fun z hz=>⟨1000,?_⟩
    ·conv=>cbv
     rfl
    obtain⟨j,al,ln,cp⟩:=z
    obtain⟨⟨hj,hal⟩,hln,hcp,hlf⟩:(j<=L/\(al.drop 0).take ln=(xss.take j).flatten)/\ln<=al.length/\ln<=cp/\ln=(xss.take j).flatten.length:=hz
    conv=>cbv
    constructor
    ·intro hc3
     have hlt:j<L:=by
      subst hΩ
      have h2:((j:Nat):Int)<((xss.length:Nat):Int):=of_decide_eq_true hc3
      omega
     obtain⟨bb,hbb⟩ : ∃ bb,xss.getD j []=bb:=⟨_,rfl⟩
     have hAt:Ω.at2 xss (Ω.toN (Int.ofNat j))=bb:=by rw[hΩ];exact hbb
     have hfl:=qiG (xss:=xss) (i:=j) (by omega)
     rw[hbb]at hfl
     have hle:=qiH xss (j+1)
     rw[hfl,List.length_append]at hle
     obtain⟨a2,ha2⟩ : ∃ a2,a2=(xss.take j).flatten++bb:=⟨_,rfl⟩
     obtain⟨l2,hl2⟩ : ∃ l2,l2=ln+bb.length:=⟨_,rfl⟩
     have f0:Ω.nadd ln (Ω.len bb)=l2:=by rw[hl2,hΩ];rfl
     have f1:Ω.cat (Ω.sub al 0 ln) bb=a2:=by
      rw[ha2,hΩ,<- hal]
      rfl
     have ha2l:a2.length=l2:=by rw[ha2,List.length_append,hl2,hlf]
     obtain⟨i2,hi2⟩ : ∃ i2,Ω.bin .add .i64 (Int.ofNat j) 1=i2:=⟨_,rfl⟩
     have ei2:i2=((j+1:Nat):Int):=by
      rw[<- hi2,hΩ]
      show binL .add .i64 (j:Int) 1=_
      rw[qF (by omega) (by omega)];omega
     conv at hAt=>lhs;cbv
     conv at hi2=>lhs;cbv
     conv=>cbv
     constructor
     ·exact fun _=>(by subst hΩ;show 0<=(j:Int)/\(j:Int)<((xss.length:Nat):Int);omega)
     constructor
     ·exact fun _=>(by subst hΩ;show j<xss.length;omega)
     rw[hAt]
     constructor
     ·exact fun _=>(by subst hΩ;show(ln+bb.length)*1<=140737488355328;omega)
     constructor
     ·exact fun _=>⟨(by show 0+ln*1<=al.length;omega),trivial⟩
     intro cap2 hcap2
     have hcap3:l2<=cap2:=by rw[hl2];subst hΩ;exact hcap2
     conv=>cbv
     rw[hi2]
     refine⟨(j+1,a2,l2,cap2),[some 272],⟨⟨by show j+1<=L;omega,by show(a2.drop 0).take l2=(xss.take (j+1)).flatten;rw[hfl,List.drop_zero,List.take_of_length_le (by omega),ha2]⟩,by show l2<=a2.length;omega,hcap3,by show l2=(xss.take (j+1)).flatten.length;rw[hfl,List.length_append,hl2,hlf]⟩,by show L-(j+1)<L-j;omega,by decide,?_⟩
     conv=>cbv
     exact⟨f0,ei2,f1⟩
    ·intro hc3
     have hjL:j=L:=by
      subst hΩ
      have h2 : ¬ ((j:Nat):Int)<((xss.length:Nat):Int):=of_decide_eq_false hc3
      omega
     rw[hjL,<- hL,List.take_length]at hal hlf
     conv=>cbv
     refine hQ (xss.flatten,cp) _ _ _ ⟨rfl,by show xss.flatten.length<=cp;omega⟩ ?_
     subst hΩ
     refine⟨rfl,rfl,by show 0+ln<=al.length;omega,?_⟩
     exact hal.symm
end Go.Sx.Tryz
end
