/-
  Part of the proof of a statement: the means.
-/
import Derived.Test.YtpnebmmjpapopaaGreatDoorX25
import Derived.Test.YtpnebmmjpapopaaGreatDoorX19
import Derived.Test.YtpnebmmjpapopaaGreatDoorX16
import Derived.Test.YtpnebmmjpapopaaGreatDoorX24
import Derived.Test.YtpnebmmjpapopaaGreatDoorX10
import Derived.Test.YtpnebmmjpapopaaGreatDoorX91
set_option linter.unusedSectionVars false
set_option linter.unusedVariables false
set_option linter.unusedSimpArgs false
set_option linter.deprecated false
section
set_option maxHeartbeats 4000000
namespace Go.Sx.Tryz
open Go.Proofs
set_option maxRecDepth 40000
@[irreducible] def ePt (bs:List Int):AP:=⟨eX (fI (qe bs)),eY (fI (qe bs))⟩
def qfr (Ω:Om):qd:=fun args=>match args with
 | [.roi .u8 bs]=>⟨∀ _:Unit,(∀ a ∈ bs,0<=a/\a<256)/\bs.length<9223372036854775808,Bool,fun z=>z=(bs.length == 56),fun z=>match z with|true =>.tup [.ab (.pt (Ω.hide _ fun _=>ePt bs)),.lit .i64 0]|false =>.tup [.ab (.pt (Ω.hide _ fun _=>pid)),.lit .i64 11]⟩
 | _=>PR.none
theorem qp4:Ctr Tryz.prog T glob 32 (qfr Om.real):=by
 refine qo T_ok qf qg (fun Ω=>[(27,qhq Ω),(49,qcy Ω),(102,qg0 Ω),(103,qhM Ω)]) [] (fun Ω=>[]) [] (qb quR (qb qe1 (qb qth (qb qvW qh)))) qi qk ql Tryz.func32 (by rfl) (by kernel_rfl) Tryz.call32 ?_ ?_
 ·intro args;unfold qfr;split
  ·exact qba ⟨fun x=>by cases x<;>repeat' (first|exact trivial|constructor),fun E x b=>by cases x<;>rfl⟩ (by repeat' (first|exact trivial|constructor)) (fun _=>⟨_,rfl⟩)
  ·exact PR.good_none
 ·intro P Ω hΩ hE hI hm args pr hs hp Q hQ
  unfold qfr at hs
  split at hs<;>subst hs<;>try (exact hp.elim)
  rename_i bs
  obtain⟨hb,hl⟩:=hp ()
  refine⟨1000,?_⟩
  conv=>cbv
  constructor
  ·exact fun _ _=>⟨hb,hl⟩
  intro z hz
  cases z with
  | false =>
    conv=>cbv
    repeat (constructor;(first|exact fun(_:Unit)=>trivial|exact fun(_:Unit) (_:Unit)=>(by decide));intro _ _;conv=>cbv)
    refine hQ false _ _ _ hz ?_
    subst hΩ
    exact⟨⟨rfl,⟨rfl,rfl⟩,trivial⟩,rfl,rfl⟩
  | true =>
    conv=>cbv
    constructor
    · exact fun(_:Unit)=>trivial
    intro w hw
    have hw1:w=true:=by
      subst hΩ
      rw[show w=_ from hw]
      exact decide_eq_true (e_on (fI (qe bs)))
    subst hw1
    conv=>cbv
    constructor
    · exact fun(_:Unit) (_:Unit)=>(by subst hΩ;exact e_on (fI (qe bs)))
    intro y hy
    have hy1:y=true:=by
      subst hΩ
      rw[show y=_ from hy]
      exact decide_eq_true (e_L (fI (qe bs)))
    subst hy1
    conv=>cbv
    refine hQ true _ _ _ hz ?_
    subst hΩ
    refine⟨⟨?_,⟨rfl,rfl⟩,trivial⟩,rfl,rfl⟩
    show Pay.pt ⟨eX (fI (qe bs)),eY (fI (qe bs))⟩=Pay.pt (ePt bs)
    unfold ePt
    rfl
theorem qh8 {bs:List Int} (h : ∀ a ∈ bs,0<=a/\a<256) (o n:Nat) : ∀ a ∈ (bs.drop o).take n,0<=a/\a<256:=fun a ha=>h a (List.mem_of_mem_drop (List.mem_of_mem_take ha))
def qfs (Ω:Om):qd:=fun args=>match args with
 | [.roi .u8 bs]=>⟨∀ _:Unit,(∀ a ∈ bs,0<=a/\a<256)/\bs.length<9223372036854775808,Bool,fun z=>z=decide (bs.length=112),fun z=>match z with|true =>.tup [.ab (.pt (Ω.hide _ fun _=>padd (padd pid (ePt ((bs.drop 0).take 56))) (ePt ((bs.drop 56).take 56)))),.lit .i64 0]|false =>.tup [.ab (.pt (Ω.hide _ fun _=>pid)),.lit .i64 11]⟩
 | _=>PR.none
theorem qp5:Ctr Tryz.prog T glob 39 (qfs Om.real):=by
 refine qo T_ok qf qg (fun Ω=>[(49,qcy Ω),(32,qfr Ω),(41,qg4 Ω)]) [] (fun Ω=>[]) [] (qb qe1 (qb qp4 (qb qtl qh))) qi qk ql Tryz.func39 (by rfl) (by kernel_rfl) Tryz.call39 ?_ ?_
 ·intro args;unfold qfs;split
  ·exact qba ⟨fun x=>by cases x<;>repeat' (first|exact trivial|constructor),fun E x b=>by cases x<;>rfl⟩ (by repeat' (first|exact trivial|constructor)) (fun _=>⟨_,rfl⟩)
  ·exact PR.good_none
 ·intro P Ω hΩ hE hI hm args pr hs hp Q hQ
  unfold qfs at hs
  split at hs<;>subst hs<;>try (exact hp.elim)
  rename_i bs
  obtain⟨hb,hl⟩:=hp ()
  refine⟨1000,?_⟩
  conv=>cbv
  constructor
  ·intro hc
   have hne : ¬ bs.length=112:=by rw[hΩ]at hc;simp (disch:=omega) only[Om.real,qc,decide_eq_true_eq,decide_eq_false_iff_not]at hc;omega
   conv=>cbv
   repeat (constructor;(first|exact fun(_:Unit)=>trivial|exact fun(_:Unit) (_:Unit)=>(by decide));intro _ _;conv=>cbv)
   refine hQ false _ _ _ (decide_eq_false hne).symm ?_
   subst hΩ
   exact⟨⟨rfl,⟨rfl,rfl⟩,trivial⟩,rfl,rfl⟩
  ·intro hc
   have h112:bs.length=112:=by rw[hΩ]at hc;simp (disch:=omega) only[Om.real,qc,decide_eq_true_eq,decide_eq_false_iff_not]at hc;omega
   conv=>cbv
   constructor;(first|exact fun(_:Unit)=>trivial|exact fun(_:Unit) (_:Unit)=>(by decide));intro _ _;conv=>cbv
   refine qac hE hI hm (n:=1000) ?_
   conv=>cbv
   constructor
   ·exact fun(_:Unit)=>⟨trivial,trivial,trivial,(by decide:(0:Nat)<=56),(by decide:(56:Nat)<=56),by subst hΩ;show 56<=bs.length;omega⟩
   constructor
   ·exact fun(_:Unit) (_:Unit)=>⟨by subst hΩ;exact qh8 hb 0 56,by subst hΩ;show((bs.drop 0).take 56).length<9223372036854775808;rw[List.length_take];omega⟩
   intro z0 hz0
   have e0:z0=true:=by
    subst hΩ
    have h2:z0=(((bs.drop 0).take 56).length == 56):=hz0
    rw[h2,List.length_take,List.length_drop,show min 56 (bs.length-0)=56 by omega]
    rfl
   subst e0
   conv=>cbv
   constructor;(first|exact fun(_:Unit)=>trivial|exact fun(_:Unit) (_:Unit)=>(by decide));intro _ _;conv=>cbv
   refine qac hE hI hm (n:=1000) ?_
   conv=>cbv
   constructor
   ·exact fun(_:Unit)=>⟨trivial,trivial,trivial,(by decide:(56:Nat)<=112),(by decide:(112:Nat)<=112),by subst hΩ;show 112<=bs.length;omega⟩
   constructor
   ·exact fun(_:Unit) (_:Unit)=>⟨by subst hΩ;exact qh8 hb 56 56,by subst hΩ;show((bs.drop 56).take 56).length<9223372036854775808;rw[List.length_take];omega⟩
   intro z56 hz56
   have e56:z56=true:=by
    subst hΩ
    have h2:z56=(((bs.drop 56).take 56).length == 56):=hz56
    rw[h2,List.length_take,List.length_drop,show min 56 (bs.length-56)=56 by omega]
    rfl
   subst e56
   conv=>cbv
   constructor;(first|exact fun(_:Unit)=>trivial|exact fun(_:Unit) (_:Unit)=>(by decide));intro _ _;conv=>cbv
   refine qac hE hI hm (n:=1000) ?_
   conv=>cbv
   refine hQ true _ _ _ (decide_eq_true h112).symm ?_
   subst hΩ
   exact⟨⟨rfl,⟨rfl,rfl⟩,trivial⟩,rfl,rfl⟩
end Go.Sx.Tryz
end
section
set_option maxHeartbeats 4000000
namespace Go.Sx.Tryz
open Go.Proofs
set_option maxRecDepth 40000
def qir (Ω:Om):qd:=K.s25
theorem qqd:Ctr Tryz.prog T glob 66 (qir Om.real):=K.c25
theorem qkX {Ω:Om} {n:Int} {xss:List (List Int)} {z:K.RdRes} (h:(qir Ω [.int .i64 n,.rol .u8 xss]).post z) (hn : ¬ K.badN n):z.er=0/\z.out=K.tl xss.flatten n.toNat/\z.out.length<=z.c:=(K.sum_of h).2 hn
set_option maxRecDepth 100000 in
theorem qqe:K.tl [1,97] 112=exB:=by kernel_rfl
theorem exB_byt:(∀ a ∈ exB,0<=a/\a<256)/\exB.length=112:=by decide +kernel
theorem hash_ex:padd (padd pid (ePt ((exB.drop 0).take 56))) (ePt ((exB.drop 56).take 56))=padd (padd pid exP) exQ:=by
 unfold ePt
 rw[ex_a,ex_b]
theorem qw7:ePt (List.replicate 56 0)=pid:=by unfold ePt;exact ex_z
theorem qqf {X Y:AP} (h:X=Y):decide (X.x*Y.y=X.y*Y.x)=true:=by
 rw[h]
 exact decide_eq_true (Fin.mul_comm _ _)
theorem qqg {X Y:AP} (h:X.x ≠ 0) (hy:Y=pid):(!decide (X.x*Y.y=X.y*Y.x))=true:=by
 rw[hy,Bool.not_eq_true']
 refine decide_eq_false fun e=>h ?_
 have e2:X.x*1=X.y*0:=e
 rw[show X.x*1=X.x from Fin.mul_one _,show X.y*0=0 from Fin.mul_zero _]at e2
 exact e2
def qis (Ω:Om):qd:=fun args=>match args with
 | []=>⟨True,Bool,fun b=>b=true,fun b =>.bs b⟩
 | _=>PR.none
noncomputable def qw8:List (FuncId × Func):=[(42,Tryz.f42)]
theorem qw9:Ctr Tryz.prog T glob 26 (qis Om.real):=by
 refine qo T_ok qf qg (fun Ω=>[(66,qir Ω),(39,qfs Ω),(32,qfr Ω),(35,qe2 Ω),(49,qcy Ω)]) qw8 (fun Ω=>[]) [] (qb qqd (qb qp5 (qb qp4 (qb qnY (qb qe1 qh))))) (qL Tryz.call42 Tryz.func42 (by kernel_rfl) qi) qk ql Tryz.func26 (by rfl) (by kernel_rfl) Tryz.call26 ?_ ?_
 ·intro args;unfold qis;split
  ·exact qny trivial fun _=>⟨_,rfl⟩
  ·exact PR.good_none
 ·intro P Ω hΩ hE hI hm args pr hs hp Q hQ
  unfold qis at hs
  split at hs<;>subst hs<;>try (exact hp.elim)
  refine⟨1000,?_⟩
  conv=>cbv
  constructor
  ·exact fun(_:Unit)=>⟨trivial,⟨(by decide:(0:Nat)+2<=2),trivial⟩,trivial⟩
  constructor
  ·exact fun(_:Unit) (_:Unit)=>⟨by decide,by decide⟩
  intro z hz
  conv=>cbv
  have hz:=qkX (Ω:=Ω) (n:=112) (xss:=[[1,97]]) hz (by unfold K.badN;omega)
  have hzo:z.out=exB:=hz.2.1.trans qqe
  constructor
  ·intro h
   have h':False:=by (have h2:Ω.cmp .neq z.er 0=true:=h;rw[hz.1]at h2;subst hΩ;exact absurd h2 (by decide));first|done|(subst hΩ;exact Bool.noConfusion (show false=true from h))
   contradiction
  intro _
  conv=>cbv
  have hsx:(z.out.drop 0).take z.out.length=exB:=by rw[List.drop_zero,List.take_length];exact hzo
  constructor
  ·exact fun(_:Unit)=>⟨by subst hΩ;show 0+z.out.length<=z.out.length;omega,trivial⟩
  constructor
  ·intro _ _
   subst hΩ
   show(∀ a ∈ (z.out.drop 0).take z.out.length,0<=a/\a<256)/\((z.out.drop 0).take z.out.length).length<9223372036854775808
   rw[hsx,exB_byt.2]
   exact⟨exB_byt.1,by decide⟩
  intro y hy
  have hy1:y=true:=by
   subst hΩ
   have h2:y=decide (((z.out.drop 0).take z.out.length).length=112):=hy
   rw[h2,hsx,exB_byt.2]
   rfl
  subst hy1
  conv=>cbv
  constructor
  ·intro h
   have h':False:=by (subst hΩ;exact absurd h (by decide));first|done|(subst hΩ;exact Bool.noConfusion (show false=true from h))
   contradiction
  intro _
  conv=>cbv
  intro cap hcap
  conv=>cbv
  constructor
  ·exact fun(_:Unit)=>(by decide:(2+0)*24<=140737488355328)
  constructor
  ·exact fun(_:Unit)=>⟨rfl,rfl⟩
  intro cap2 hcap2
  conv=>cbv
  constructor
  ·exact fun(_:Unit)=>⟨trivial,⟨(by decide:(0:Nat)+1<=1),(by subst hΩ;exact(by decide:0+1<=1)),trivial⟩,trivial⟩
  constructor
  ·exact fun(_:Unit) (_:Unit)=>(by subst hΩ;exact⟨by decide,by decide⟩)
  intro v hv
  conv=>cbv
  have hv:=qkX (Ω:=Ω) (n:=112) hv (by unfold K.badN;omega)
  have hvo:v.out=exB:=by
   refine hv.2.1.trans ?_
   subst hΩ
   exact qqe
  constructor
  ·intro h
   have h':False:=by (have h2:Ω.cmp .neq v.er 0=true:=h;rw[hv.1]at h2;subst hΩ;exact absurd h2 (by decide));first|done|(subst hΩ;exact Bool.noConfusion (show false=true from h))
   contradiction
  intro _
  conv=>cbv
  have hsv:(v.out.drop 0).take v.out.length=exB:=by rw[List.drop_zero,List.take_length];exact hvo
  constructor
  ·exact fun(_:Unit)=>⟨by subst hΩ;show 0+v.out.length<=v.out.length;omega,trivial⟩
  constructor
  ·intro _ _
   subst hΩ
   show(∀ a ∈ (v.out.drop 0).take v.out.length,0<=a/\a<256)/\((v.out.drop 0).take v.out.length).length<9223372036854775808
   rw[hsv,exB_byt.2]
   exact⟨exB_byt.1,by decide⟩
  intro u hu
  have hu1:u=true:=by
   subst hΩ
   have h2:u=decide (((v.out.drop 0).take v.out.length).length=112):=hu
   rw[h2,hsv,exB_byt.2]
   rfl
  subst hu1
  conv=>cbv
  constructor
  ·exact fun(_:Unit)=>⟨(by decide:(0:Nat)+56<=56),trivial⟩
  constructor
  ·intro _ _
   subst hΩ
   refine⟨fun a ha => ?_,(by decide:(List.replicate 56 (0:Int)).length<9223372036854775808)⟩
   have h3:a=0:=List.eq_of_mem_replicate ha
   omega
  intro q hq
  have hq1:q=true:=by
   subst hΩ
   exact hq
  subst hq1
  conv=>cbv
  have hP:padd (padd pid (ePt ((((z.out.drop 0).take z.out.length).drop 0).take 56))) (ePt ((((z.out.drop 0).take z.out.length).drop 56).take 56))=padd (padd pid exP) exQ:=by rw[hsx];exact hash_ex
  have hR:padd (padd pid (ePt ((((v.out.drop 0).take v.out.length).drop 0).take 56))) (ePt ((((v.out.drop 0).take v.out.length).drop 56).take 56))=padd (padd pid exP) exQ:=by rw[hsv];exact hash_ex
  have hx0:(padd (padd pid (ePt ((((z.out.drop 0).take z.out.length).drop 0).take 56))) (ePt ((((z.out.drop 0).take z.out.length).drop 56).take 56))).x ≠ 0:=by rw[hP];exact qwO
  constructor;(first|exact fun(_:Unit)=>trivial|exact fun(_:Unit) (_:Unit)=>(by decide));intro _ _;conv=>cbv
  constructor
  rotate_left
  ·intro h
   have h':False:=by (subst hΩ;exact Bool.noConfusion ((qqf (hP.trans hR.symm)).symm.trans h));first|done|(subst hΩ;exact Bool.noConfusion (show true=false from h))
   contradiction
  intro _
  conv=>cbv
  constructor;(first|exact fun(_:Unit)=>trivial|exact fun(_:Unit) (_:Unit)=>(by decide));intro _ _;conv=>cbv
  constructor;(first|exact fun(_:Unit)=>trivial|exact fun(_:Unit) (_:Unit)=>(by decide));intro _ _;conv=>cbv
  constructor
  rotate_left
  ·intro h
   have h':False:=by (subst hΩ;exact Bool.noConfusion ((qqg hx0 rfl).symm.trans h));first|done|(subst hΩ;exact Bool.noConfusion (show true=false from h))
   contradiction
  intro _
  conv=>cbv
  constructor;(first|exact fun(_:Unit)=>trivial|exact fun(_:Unit) (_:Unit)=>(by decide));intro _ _;conv=>cbv
  refine hQ _ _ _ _ ?_ rfl
  subst hΩ
  exact qqg hx0 qw7
end Go.Sx.Tryz
end
section
set_option maxHeartbeats 4000000
namespace Go.Sx.Tryz
open Go.Proofs
set_option maxRecDepth 40000
def qfB (Ω:Om):qd:=fun args=>match args with
 | [.roi .u8 xs,.roi .u8 ys]=>⟨∀ _:Unit,xs.length<9223372036854775807/\ys.length<9223372036854775807,Unit,fun _=>True,fun _ =>.bs (Ω.hide _ fun _=>xs == ys)⟩
 | _=>PR.none
theorem qqi:Ctr Tryz.prog T glob 18 (qfB Om.real):=by
 refine qo T_ok qf qg (fun Ω=>[]) [] (fun Ω=>[]) [] qh qi qk ql Tryz.func18 (by rfl) (by kernel_rfl) Tryz.call18 ?_ ?_
 ·intro args;unfold qfB;split
  ·exact qt (by repeat' constructor) (fun _ _=>rfl) (by repeat' constructor)
  ·exact PR.good_none
 ·intro P Ω hΩ hE hI hm args pr hs hp Q hQ
  unfold qfB at hs
  split at hs<;>subst hs<;>try (exact hp.elim)
  rename_i xs ys
  obtain⟨lx,ly⟩:=hp ()
  refine⟨1000,?_⟩
  conv=>cbv
  constructor
  ·intro hb
   rw[hΩ]at hb;simp (disch:=omega) only[Om.real,qc,decide_eq_true_eq,decide_eq_false_iff_not]at hb
   conv=>cbv
   refine hQ () _ _ _ trivial ?_
   subst hΩ
   show false=(xs == ys)
   cases h3:xs == ys with
   | false=>rfl
   | true=>exact absurd (congrArg List.length (eq_of_beq h3)) hb
  ·intro hb
   rw[hΩ]at hb;simp (disch:=omega) only[Om.real,qc,decide_eq_true_eq,decide_eq_false_iff_not]at hb
   have hlen:xs.length=ys.length:=by omega
   conv=>cbv
   refine qr hE hI hm (fun i:Nat=>(mkT 26 [(0,.roi .u8 xs),(1,.roi .u8 ys),(4,.bl false),(5,.int .i64 i)],[])) (fun i=>i<=xs.length/\xs.take i=ys.take i) (fun i=>xs.length-i) 0 ⟨0,[],⟨Nat.zero_le _,rfl⟩,Nat.le_refl _,by cbv⟩ fun i hi=>⟨1000,?_⟩
   conv=>cbv
   constructor
   ·intro hc
    rw[hΩ]at hc;simp (disch:=omega) only[Om.real,qc,decide_eq_true_eq,decide_eq_false_iff_not]at hc
    conv=>cbv
    repeat (refine⟨by ((try intro _);(try subst hΩ);simp (disch:=omega) only[Om.real,qc,SN.v];omega),?_⟩)
    constructor
    ·intro hne
     cbv
     refine hQ () _ _ _ trivial ?_
     subst hΩ
     have h1:(xs.getD i 0 != ys.getD i 0)=true:=hne
     show false=(xs == ys)
     cases h3:xs == ys with
     | false=>rfl
     | true=>rw[eq_of_beq h3]at h1;simp at h1
    ·intro hne
     cbv
     refine⟨i+1,[],⟨hc,?_⟩,by omega,Nat.zero_le _,?_⟩
     ·subst hΩ
      have h1:(xs.getD i 0 != ys.getD i 0)=false:=hne
      rw[bne_eq_false_iff_eq]at h1
      rw[List.take_succ_eq_append_getElem hc,List.take_succ_eq_append_getElem (by omega),hi.2]
      have e1:xs.getD i 0=xs[i]:=by simp[List.getD,hc]
      have e2:ys.getD i 0=ys[i]'(by omega):=by simp[List.getD,show i<ys.length by omega]
      rw[<- e1,<- e2,h1]
     ·conv=>cbv
      subst hΩ
      simp (disch:=omega) only[Om.real,qc]
   ·intro hc
    rw[hΩ]at hc;simp (disch:=omega) only[Om.real,qc,decide_eq_true_eq,decide_eq_false_iff_not]at hc
    conv=>cbv
    refine hQ () _ _ _ trivial ?_
    have e:i=xs.length:=by have:=hi.1;omega
    have h2:=hi.2
    rw[e,List.take_length,hlen,List.take_length]at h2
    subst hΩ
    show true=(xs == ys)
    rw[h2]
    simp
end Go.Sx.Tryz
end
