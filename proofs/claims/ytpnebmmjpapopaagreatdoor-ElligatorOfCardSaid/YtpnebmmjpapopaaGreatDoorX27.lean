/-
  Part of the proof of a statement: the means.
-/
import Derived.Test.YtpnebmmjpapopaaGreatDoorX26
import Derived.Test.YtpnebmmjpapopaaGreatDoorX10
set_option linter.unusedSectionVars false
set_option linter.unusedVariables false
set_option linter.unusedSimpArgs false
set_option linter.deprecated false
section
set_option maxHeartbeats 4000000
namespace Go.Sx.Tryz
open Go.Proofs
set_option maxRecDepth 40000
def qiv (Ω:Om):qd:=fun args=>match args with
 | [.roi .u8 bs]=>⟨∀ _:Unit,bs.length=56/\(∀ a ∈ bs,0<=a/\a<256),Unit,fun _=>True,fun _ =>.ab (.rp (Ω.hide _ fun _=>ePt bs))⟩
 | _=>PR.none
theorem qxg:Ctr Tryz.prog T glob 38 (qiv Om.real):=by
 refine qo T_ok qf qg (fun Ω=>[(28,qiu Ω),(108,qio Ω)]) [] (fun Ω=>[]) [] (qb qxf (qb qw4 qh)) qi qk ql Tryz.func38 (by rfl) (by kernel_rfl) Tryz.call38 ?_ ?_
 ·intro args;unfold qiv;split
  ·exact qt (by repeat' constructor) (fun _ _=>rfl) (by repeat' constructor)
  ·exact PR.good_none
 ·intro P Ω hΩ hE hI hm args pr hs hp Q hQ
  unfold qiv at hs
  split at hs<;>subst hs<;>try (exact hp.elim)
  rename_i bs
  obtain⟨hl,hb⟩:=hp ()
  refine⟨1000,?_⟩
  conv=>cbv
  constructor
  ·exact fun(_:Unit) (_:Unit)=>⟨hl,hb⟩
  intro _ _
  conv=>cbv
  constructor
  ·exact fun(_:Unit) (_:Unit)=>(by subst hΩ;exact e_on (fI (qe bs)))
  intro _ _
  conv=>cbv
  refine hQ () _ _ _ trivial ?_
  subst hΩ
  show Pay.rp ⟨eX (fI (qe bs)),eY (fI (qe bs))⟩=Pay.rp (ePt bs)
  unfold ePt
  rfl
def qiw (Ω:Om):qd:=fun args=>match args with
 | [.roi .u8 bs]=>⟨∀ _:Unit,bs.length=112/\(∀ a ∈ bs,0<=a/\a<256),Unit,fun _=>True,fun _ =>.ab (.rp (Ω.hide _ fun _=>padd (ePt ((bs.drop 0).take 56)) (ePt ((bs.drop 56).take 56))))⟩
 | _=>PR.none
theorem qxh:Ctr Tryz.prog T glob 40 (qiw Om.real):=by
 refine qo T_ok qf qg (fun Ω=>[(38,qiv Ω),(109,qil Ω)]) [] (fun Ω=>[]) [] (qb qxg (qb qw1 qh)) qi qk ql Tryz.func40 (by rfl) (by kernel_rfl) Tryz.call40 ?_ ?_
 ·intro args;unfold qiw;split
  ·exact qt (by repeat' constructor) (fun _ _=>rfl) (by repeat' constructor)
  ·exact PR.good_none
 ·intro P Ω hΩ hE hI hm args pr hs hp Q hQ
  unfold qiw at hs
  split at hs<;>subst hs<;>try (exact hp.elim)
  rename_i bs
  obtain⟨hl,hb⟩:=hp ()
  refine⟨1000,?_⟩
  conv=>cbv
  constructor
  ·exact fun(_:Unit)=>⟨trivial,trivial,trivial,(by decide:(0:Nat)<=56),(by subst hΩ;show 56<=bs.length;omega),Nat.le_refl _⟩
  constructor
  ·exact fun(_:Unit) (_:Unit)=>⟨by subst hΩ;show((bs.drop 0).take 56).length=56;rw[List.length_take,List.length_drop];omega,by subst hΩ;exact qh8 hb 0 56⟩
  intro _ _
  conv=>cbv
  constructor
  ·exact fun(_:Unit)=>⟨trivial,trivial,trivial,(by subst hΩ;show 56<=bs.length;omega),Nat.le_refl _,Nat.le_refl _⟩
  have hs2 : ∀ Ω:Om,Ω=Om.real->(Ω.sub bs 56 (Ω.nsub (Ω.len bs) 56))=(bs.drop 56).take 56:=fun Ω h=>by
   subst h
   show(bs.drop 56).take (bs.length-56)=_
   rw[show bs.length-56=56 by omega]
  constructor
  ·intro _ _
   have h3:=hs2 Ω hΩ
   subst hΩ
   show(Om.real.sub bs 56 (Om.real.nsub (Om.real.len bs) 56)).length=56 /\ ∀ a ∈ Om.real.sub bs 56 (Om.real.nsub (Om.real.len bs) 56),0<=a/\a<256
   rw[h3]
   exact⟨by rw[List.length_take,List.length_drop];omega,qh8 hb 56 56⟩
  intro _ _
  conv=>cbv
  constructor;(first|exact fun(_:Unit)=>trivial|exact fun(_:Unit) (_:Unit)=>(by decide));intro _ _;conv=>cbv
  refine hQ () _ _ _ trivial ?_
  have h3:=hs2 Ω hΩ
  subst hΩ
  show Pay.rp (padd (ePt ((bs.drop 0).take 56)) (ePt (Om.real.sub bs 56 (Om.real.nsub (Om.real.len bs) 56))))=_
  rw[h3]
  rfl
def qix (Ω:Om):qd:=fun args=>match args with
 | [.ab (.pt P),.ab (.rp Q)]=>⟨True,Unit,fun _=>True,fun _ =>.bs (Ω.hide _ fun _=>qah (encF P) == qah (encF Q))⟩
 | _=>PR.none
theorem qxi:Ctr Tryz.prog T glob 37 (qix Om.real):=by
 refine qo T_ok qf qg (fun Ω=>[(44,qe3 Ω),(107,qiq Ω),(18,qfB Ω)]) [] (fun Ω=>[]) [] (qb qnZ (qb qw6 (qb qqi qh))) qi qk ql Tryz.func37 (by rfl) (by kernel_rfl) Tryz.call37 ?_ ?_
 ·intro args;unfold qix;split
  ·exact qt (by repeat' constructor) (fun _ _=>rfl) (by repeat' constructor)
  ·exact PR.good_none
 ·intro P Ω hΩ hE hI hm args pr hs hp Q hQ
  unfold qix at hs
  split at hs<;>subst hs<;>try (exact hp.elim)
  rename_i P R
  refine⟨1000,?_⟩
  conv=>cbv
  constructor;(first|exact fun(_:Unit)=>trivial|exact fun(_:Unit) (_:Unit)=>(by decide));intro _ _;conv=>cbv
  rename_i x hx
  have hx:x.1=qah (encF P)/\x.1.length<=x.2:=by subst hΩ;exact hx
  constructor
  ·exact fun(_:Unit)=>trivial
  intro y hy
  have hy:y.1=qah (encF R)/\y.1.length<=y.2:=by subst hΩ;exact hy
  have hsx:(x.1.drop 0).take x.1.length=x.1:=by rw[List.drop_zero,List.take_length]
  have hsy:(y.1.drop 0).take y.1.length=y.1:=by rw[List.drop_zero,List.take_length]
  conv=>cbv
  constructor
  ·exact fun _=>⟨by subst hΩ;show 0+x.1.length<=x.1.length;omega,by subst hΩ;show 0+y.1.length<=y.1.length;omega,trivial⟩
  constructor
  ·intro _ _
   subst hΩ
   show((x.1.drop 0).take x.1.length).length<_/\((y.1.drop 0).take y.1.length).length<_
   rw[hsx,hsy,hx.1,hy.1,qeU,qeU]
   decide
  intro _ _
  conv=>cbv
  refine hQ () _ _ _ trivial ?_
  subst hΩ
  refine ?_
  show((x.1.drop 0).take x.1.length == (y.1.drop 0).take y.1.length)=(qah (encF P) == qah (encF R))
  rw[hsx,hsy,hx.1,hy.1]
end Go.Sx.Tryz
end
