/-
  Part of the proof of a statement: the means.
-/
import Derived.Test.YtpnebmmjpapopaaGreatDoorX15
import Derived.Test.YtpnebmmjpapopaaGreatDoorX81
import Derived.Test.YtpnebmmjpapopaaGreatDoorX13
set_option linter.unusedSectionVars false
set_option linter.unusedVariables false
set_option linter.unusedSimpArgs false
set_option linter.deprecated false
section
set_option maxHeartbeats 4000000
namespace Go.Sx.Tryz
open Go.Proofs
set_option maxRecDepth 40000
theorem qrS (l:List AP) : ∃ x:List AP × Nat,x.1=l/\x.1.length<=x.2:=⟨(l,l.length),rfl,Nat.le_refl _⟩
abbrev Z32:SVal :=.agg [.agg [.row .u64 8 [0,0,0,0,0,0,0,0]],.agg [.row .u64 8 [0,0,0,0,0,0,0,0]],.agg [.row .u64 8 [0,0,0,0,0,0,0,0]]]
def qfW (Ω:Om):qe:=fun args=>match args with
 | [.int .i64 a,.int .i64 b]=>⟨∀ _:Unit,(0<=a/\a<1000)/\0<=b/\b<1000,Unit,fun _=>True,fun _ =>.int .i64 (Ω.hide _ fun _=>if a=b then 1 else 0)⟩
 | _=>PR.none
theorem qrT:Ctr Tryz.prog T glob 223 (qfW Om.real):=by
 refine qq T_ok qf qg (fun Ω=>[]) [] (fun Ω=>[]) [] qh qi qk ql Tryz.func223 (by rfl) (by kernel_rfl) Tryz.call223 ?_ ?_
 ·intro args;unfold qfW;split
  ·exact qo (by repeat' constructor) (fun _ _=>rfl) (by repeat' constructor)
  ·exact PR.good_none
 ·intro P Ω hΩ hE hI hm args pr hs hp Q hQ
  unfold qfW at hs
  split at hs<;>subst hs<;>try (exact hp.elim)
  rename_i a b
  obtain⟨ha,hb⟩:=hp ()
  refine⟨1000,?_⟩
  conv=>cbv
  refine hQ () _ _ _ trivial ?_
  subst hΩ
  exact⟨rfl,qrR ha hb⟩
def qfX (Ω:Om):qe:=fun args=>match args with
 | [.roa (.pt l),.int .i64 i]=>⟨∀ _:Unit,(0<=i/\i<l.length)/\l.length<1000,Unit,fun _=>True,fun _ =>.tup [.ab (.pt (Ω.hide _ fun _=>l.getD i.toNat ⟨0,1⟩)),.int .i64 0]⟩
 | _=>PR.none
theorem qrU:Ctr Tryz.prog T glob 146 (qfX Om.real):=by
 refine qq T_ok qf qg (fun Ω=>[(120,qcZ Ω),(223,qfW Ω),(147,qfT Ω)]) [] (fun Ω=>[]) [] (qc qiB (qc qrT (qc qrK qh))) qi qk ql Tryz.func146 (by rfl) (by kernel_rfl) Tryz.call146 ?_ ?_
 ·intro args;unfold qfX;split
  ·exact qo (by repeat' constructor) (fun _ _=>rfl) (by repeat' constructor)
  ·exact PR.good_none
 ·intro P Ω hΩ hE hI hm args pr hs hp Q hQ
  unfold qfX at hs
  split at hs<;>subst hs<;>try (exact hp.elim)
  rename_i l i
  obtain⟨⟨h0,h1⟩,h2⟩:=hp ()
  refine⟨1000,?_⟩
  conv=>cbv
  constructor
  ·intro h
   have h':False:=by (subst hΩ;have h2:=of_decide_eq_true h;change i<0 at h2;omega);first|done|(subst hΩ;exact Bool.noConfusion (show false=true from h))
   contradiction
  intro _
  conv=>cbv
  constructor
  ·intro h
   have h':False:=by (subst hΩ;have h2:=of_decide_eq_true h;change i >= ((l.length:Nat):Int)at h2;omega);first|done|(subst hΩ;exact Bool.noConfusion (show false=true from h))
   contradiction
  intro _
  conv=>cbv
  constructor;(first|exact fun(_:Unit)=>trivial|exact fun(_:Unit) (_:Unit)=>(by decide));intro _ _;conv=>cbv
  obtain⟨K,hK⟩ : ∃ K,Ω.ofN (Ω.hide Nat fun _=>l.length)=K:=⟨_,rfl⟩
  have eK:K=(l.length:Int):=by rw[<- hK,hΩ];rfl
  conv at hK=>lhs;cbv
  rw[hK]
  obtain⟨n,hn⟩ : ∃ n,i.toNat=n:=⟨_,rfl⟩
  obtain⟨P0,hP0⟩ : ∃ P0,P0=pid:=⟨_,rfl⟩
  refine qn hE hI hm (fun z:Nat × AP=>(mkT 34 [(0,.roa (.pt l)),(1,.int .i64 i),(4,.ptr 0 (.l 0)),(5,.lit .i64 0),(6,.ptr 88 (.l 0)),(19,.roa (.pt l)),(20,.int .i64 K),(21,.int .i64 z.1)],[(88,.ab (.pt z.2)),(0,Z32)])) (fun z=>z.1<=l.length/\(n<z.1->z.2=l.getD n ⟨0,1⟩)) (fun z=>l.length-z.1) 0 ⟨(0,P0),[],⟨Nat.zero_le _,fun h=>absurd h (Nat.not_lt_zero _)⟩,Nat.zero_le _,?_⟩ fun z hz=>⟨1000,?_⟩
  ·conv=>cbv
   subst hΩ
   exact⟨rfl,by rw[hP0];rfl,trivial⟩
  obtain⟨k,X⟩:=z
  obtain⟨hk,hX⟩:k<=l.length/\(n<k->X=l.getD n ⟨0,1⟩):=hz
  conv=>cbv
  constructor
  ·intro hc
   have hlt:(k:Int)<K:=by subst hΩ;exact of_decide_eq_true hc
   conv=>cbv
   constructor
   ·exact fun _=>⟨Int.natCast_nonneg k,by subst hΩ;show(k:Int)<((l.length:Nat):Int);omega⟩
   constructor
   ·exact fun _=>by subst hΩ;show k<l.length;omega
   constructor
   ·exact fun _ _=>⟨⟨Int.natCast_nonneg k,(show(k:Int)<1000 by omega)⟩,h0,by omega⟩
   intro _ _
   conv=>cbv
   constructor;(first|exact fun(_:Unit)=>trivial|exact fun(_:Unit) (_:Unit)=>(by decide));intro _ _;conv=>cbv
   obtain⟨X2,hX2⟩ : ∃ X2,(if (if (k:Int)=i then (1:Int) else 0) % 2=0 then X else l.getD k ⟨0,1⟩)=X2:=⟨_,rfl⟩
   refine⟨(k+1,X2),[],⟨by show k+1<=l.length;omega,fun h => ?_⟩,by show l.length-(k+1)<l.length-k;omega,Nat.zero_le _,?_⟩
   ·show X2=_
    rw[<- hX2]
    by_cases e:(k:Int)=i
    ·rw[if_pos e,if_neg (by decide),show n=k by omega]
    ·rw[if_neg e,if_pos (by decide)]
     exact hX (by have h':n<k+1:=h;omega)
   ·conv=>cbv
    subst hΩ
    refine⟨?_,?_,trivial⟩
    ·show binL .add .i64 (k:Int) 1=((k+1:Nat):Int)
     rw[qF (by omega) (by omega)];omega
    ·exact congrArg Pay.pt hX2
  ·intro hc
   have hge : ¬ (k:Int)<K:=by subst hΩ;exact of_decide_eq_false hc
   conv=>cbv
   refine hQ () _ _ _ trivial ?_
   subst hΩ
   refine⟨⟨?_,⟨rfl,rfl⟩,trivial⟩,rfl,rfl⟩
   show Pay.pt X=Pay.pt (l.getD i.toNat ⟨0,1⟩)
   rw[hX (by omega),hn]
end Go.Sx.Tryz
end
section

end
section

end
section

end
section

end
