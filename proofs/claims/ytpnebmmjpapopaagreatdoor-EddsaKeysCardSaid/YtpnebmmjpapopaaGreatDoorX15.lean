/-
  Part of the proof of a statement: the means.
-/
import Derived.Test.YtpnebmmjpapopaaGreatDoorX14
import Derived.Test.YtpnebmmjpapopaaGreatDoorX13
set_option linter.unusedSectionVars false
set_option linter.unusedVariables false
set_option linter.unusedSimpArgs false
set_option linter.deprecated false
section

end
section

end
section

end
section

end
section
set_option maxHeartbeats 4000000
namespace Go.Sx.Tryz
open Go.Proofs
set_option maxRecDepth 40000
def qfJ (Ω:Om):qe:=fun args=>match args with
 | [.int .i64 i,.rop (.roi .u8 bs) (.l 0)]=>⟨∀ _:Unit,(Byt bs/\bs.length<=1000)/\0<=i,Unit,fun _=>True,fun _ =>.int .i64 (Ω.hide _ fun _=>((bitN (nV bs) i.toNat:Nat):Int))⟩
 | _=>PR.none
theorem qrz:Ctr Tryz.prog T glob 261 (qfJ Om.real):=by
 refine qq T_ok qf qg (fun Ω=>[]) [] (fun Ω=>[]) [] qh qi qk ql Tryz.func261 (by rfl) (by kernel_rfl) Tryz.call261 ?_ ?_
 ·intro args;unfold qfJ;split
  ·exact qo (by repeat' constructor) (fun _ _=>rfl) (by repeat' constructor)
  ·exact PR.good_none
 ·intro P Ω hΩ hE hI hm args pr hs hp Q hQ
  unfold qfJ at hs
  split at hs<;>subst hs<;>try (exact hp.elim)
  rename_i i bs
  obtain⟨⟨hb,lb⟩,h0⟩:=hp ()
  refine⟨1000,?_⟩
  conv=>cbv
  constructor
  ·intro hc
   have h1:i >= 8*(bs.length:Int):=by
    subst hΩ
    have h2:=of_decide_eq_true hc
    change i >= binL .mul .i64 8 ((bs.length:Nat):Int)at h2
    rw[qbe (by omega) (by omega)]at h2;exact h2
   conv=>cbv
   refine hQ () _ _ _ trivial ?_
   subst hΩ
   refine⟨rfl,?_⟩
   show(0:Int)=((bitN (nV bs) i.toNat:Nat):Int)
   rw[qry hb (by omega)];rfl
  ·intro hc
   have h1 : ¬ i >= 8*(bs.length:Int):=by
    subst hΩ
    have h2:=of_decide_eq_false hc
    change ¬ i >= binL .mul .i64 8 ((bs.length:Nat):Int)at h2
    rw[qbe (by omega) (by omega)]at h2;exact h2
   obtain⟨n,rfl⟩ : ∃ n:Nat,i=n:=⟨i.toNat,by omega⟩
   have hq8:Ω.bin .quo .i64 (n:Int) 8=((n / 8:Nat):Int):=by subst hΩ;exact qdI n 8 (by omega)
   obtain⟨q,hq⟩ : ∃ q,Ω.bin .quo .i64 (n:Int) 8=q:=⟨_,rfl⟩
   have eq:q=((n / 8:Nat):Int):=hq.symm.trans hq8
   obtain⟨r,hr⟩ : ∃ r,Ω.bin .rem .i64 (n:Int) 8=r:=⟨_,rfl⟩
   have er:r=((n % 8:Nat):Int):=by rw[<- hr,hΩ];exact qfe n 8
   conv at hq=>lhs;cbv
   conv at hr=>lhs;cbv
   conv=>cbv
   rw[hq]
   rw[hr]
   constructor
   ·exact fun _=>⟨by omega,by subst hΩ;show q<((bs.length:Nat):Int);omega⟩
   constructor
   ·exact fun _=>by subst hΩ;show q.toNat+1<=bs.length;omega
   constructor
   ·exact fun _=>by omega
   refine hQ () _ _ _ trivial ?_
   subst hΩ
   refine⟨rfl,?_⟩
   show IntKind.i64.wrap (binL .and .u8 (binL .shr .u8 (bs.getD q.toNat 0) r) 1)=((bitN (nV bs) n:Nat):Int)
   rw[er,eq,Int.toNat_natCast]
   exact qrx hb n
end Go.Sx.Tryz
end
section

end
section

end
section

end
