/-
  Part of the proof of a statement: the means.
-/
import Derived.Test.YtpnebmmjpapopaaGreatDoorX14
import Derived.Test.YtpnebmmjpapopaaGreatDoorX13
set_option linter.unusedSectionVars false
set_option linter.unusedVariables false
set_option linter.unusedSimpArgs false
set_option linter.deprecated false
section
set_option maxHeartbeats 4000000
namespace Go.Sx.Tryz
open Go.Proofs
set_option maxRecDepth 40000
def qhC (Ω:Om):qd:=fun args=>match args with
 | []=>⟨True,List Int × Nat,fun z=>z.1=qcD/\z.1.length<=z.2,fun z =>.fr .u64 z.1 z.2⟩
 | _=>PR.none
theorem qvH:Ctr Tryz.prog T glob 203 (qhC Om.real):=by
 refine qo T_ok qf qg (fun Ω=>[]) [] (fun Ω=>[]) [] qh qi qk ql Tryz.func203 (by rfl) (by kernel_rfl) Tryz.call203 ?_ ?_
 ·intro args;unfold qhC;split
  ·exact qaE trivial fun _=>qa5 _
  ·exact PR.good_none
 ·intro P Ω hΩ hE hI hm args pr hs hp Q hQ
  unfold qhC at hs
  split at hs<;>subst hs<;>try (exact hp.elim)
  refine⟨1000,?_⟩
  conv=>cbv
  refine hQ (qcD,4) _ _ _ ⟨rfl,by decide⟩ ?_
  subst hΩ
  exact⟨rfl,rfl,Nat.le_refl 4,rfl⟩
def qhD (Ω:Om):qd:=fun args=>match args with
 | []=>⟨True,List Int × Nat,fun z=>z.1=natW LN/\z.1.length<=z.2,fun z =>.fr .u64 z.1 z.2⟩
 | _=>PR.none
theorem qvI:Ctr Tryz.prog T glob 202 (qhD Om.real):=by
 refine qo T_ok qf qg (fun Ω=>[(204,qhA Ω),(203,qhC Ω),(201,qhz Ω)]) [] (fun Ω=>[]) [] (qb qvF (qb qvH (qb qvD qh))) qi qk ql Tryz.func202 (by rfl) (by kernel_rfl) Tryz.call202 ?_ ?_
 ·intro args;unfold qhD;split
  ·exact qaE trivial fun _=>qa5 _
  ·exact PR.good_none
 ·intro P Ω hΩ hE hI hm args pr hs hp Q hQ
  unfold qhD at hs
  split at hs<;>subst hs<;>try (exact hp.elim)
  refine⟨1000,?_⟩
  conv=>cbv
  constructor
  ·exact fun _=>⟨(show 0+1<=1 by decide),trivial,trivial⟩
  constructor
  ·exact fun _ _=>⟨⟨quh,by decide⟩,by decide⟩
  intro z hz
  obtain⟨zl,zc⟩:=z
  have hz:zl=natW (shV (wV [1]) 446)/\zl.length<=zc:=by subst hΩ;exact hz
  have hsz:Ω.sub zl 0 (Ω.len zl)=zl:=by
   rw[hΩ];show(zl.drop 0).take zl.length=zl
   rw[List.drop_zero,List.take_length]
  conv at hsz=>lhs;cbv
  conv=>cbv
  rw[qug]at hz
  constructor
  ·exact fun(_:Unit)=>trivial
  intro y hy
  obtain⟨yl,yc⟩:=y
  have hy:yl=qcD/\yl.length<=yc:=by subst hΩ;exact hy
  have hsy:Ω.sub yl 0 (Ω.len yl)=yl:=by
   rw[hΩ];show(yl.drop 0).take yl.length=yl
   rw[List.drop_zero,List.take_length]
  conv at hsy=>lhs;cbv
  conv=>cbv
  constructor
  ·exact fun _=>⟨(by subst hΩ;show 0+zl.length<=zl.length;omega),(by subst hΩ;show 0+yl.length<=yl.length;omega),trivial⟩
  rw[hsz,hsy]
  obtain⟨nz,vz⟩:=nwT hz.1
  obtain⟨ny,vy⟩:=nwC hy.1
  constructor
  ·exact fun _ _=>⟨nz,ny,by rw[vy,vz];exact qud⟩
  intro w hw
  obtain⟨wl,wc⟩:=w
  have hw:wl=natW (wV zl-wV yl)/\wl.length<=wc:=by subst hΩ;exact hw
  have hsw:Ω.sub wl 0 (Ω.len wl)=wl:=by
   rw[hΩ];show(wl.drop 0).take wl.length=wl
   rw[List.drop_zero,List.take_length]
  conv at hsw=>lhs;cbv
  conv=>cbv
  rw[vz,vy,quc]at hw
  refine hQ (wl,wc) _ _ _ hw ?_
  subst hΩ
  exact⟨rfl,rfl,(show 0+wl.length<=wl.length by omega),hsw.symm⟩
end Go.Sx.Tryz
end
section

end
section

end
section
set_option maxHeartbeats 4000000
namespace Go.Sx.Tryz
open Go.Proofs
set_option maxRecDepth 40000
def qhE (Ω:Om):qd:=fun args=>match args with
 | []=>⟨True,List Int × Nat,fun z=>z.1=qP LN 57/\z.1.length<=z.2,fun z =>.fr .u8 z.1 z.2⟩
 | _=>PR.none
theorem qvJ:Ctr Tryz.prog T glob 191 (qhE Om.real):=by
 refine qo T_ok qf qg (fun Ω=>[(202,qhD Ω),(151,qhB Ω)]) [] (fun Ω=>[]) [] (qb qvI (qb qvG qh)) qi qk ql Tryz.func191 (by rfl) (by kernel_rfl) Tryz.call191 ?_ ?_
 ·intro args;unfold qhE;split
  ·exact qaE trivial fun _=>qa5 _
  ·exact PR.good_none
 ·intro P Ω hΩ hE hI hm args pr hs hp Q hQ
  unfold qhE at hs
  split at hs<;>subst hs<;>try (exact hp.elim)
  refine⟨1000,?_⟩
  conv=>cbv
  constructor
  ·exact fun(_:Unit)=>trivial
  intro l hl
  obtain⟨ll,lc⟩:=l
  have hl:ll=natW LN/\ll.length<=lc:=by subst hΩ;exact hl
  have hsl:Ω.sub ll 0 (Ω.len ll)=ll:=by
   rw[hΩ];show(ll.drop 0).take ll.length=ll
   rw[List.drop_zero,List.take_length]
  conv at hsl=>lhs;cbv
  conv=>cbv
  obtain⟨nl,vl⟩:=nwL hl.1
  constructor
  ·exact fun _=>⟨(by subst hΩ;show 0+ll.length<=ll.length;omega),trivial,trivial⟩
  rw[hsl]
  constructor
  ·exact fun _ _=>⟨nl,by decide,by rw[vl];exact Nat.lt_trans qkr qoE⟩
  intro b hb
  obtain⟨bl,bc⟩:=b
  have hb:bl=qP (wV ll) 57/\bl.length<=bc:=by subst hΩ;exact hb
  have hsb:Ω.sub bl 0 (Ω.len bl)=bl:=by
   rw[hΩ];show(bl.drop 0).take bl.length=bl
   rw[List.drop_zero,List.take_length]
  conv at hsb=>lhs;cbv
  conv=>cbv
  rw[vl]at hb
  refine hQ (bl,bc) _ _ _ hb ?_
  subst hΩ
  exact⟨rfl,rfl,(show 0+bl.length<=bl.length by omega),hsb.symm⟩
end Go.Sx.Tryz
end
section
set_option maxHeartbeats 4000000
namespace Go.Sx.Tryz
open Go.Proofs
set_option maxRecDepth 40000
def qhF (Ω:Om):qd:=fun args=>match args with
 | [.int .i64 i,.rop (.roi .u8 bs) (.l 0)]=>⟨∀ _:Unit,(Byt bs/\bs.length<=1000)/\0<=i,Unit,fun _=>True,fun _ =>.int .i64 (Ω.hide _ fun _=>((bitN (nV bs) i.toNat:Nat):Int))⟩
 | _=>PR.none
theorem qvK:Ctr Tryz.prog T glob 261 (qhF Om.real):=by
 refine qo T_ok qf qg (fun Ω=>[]) [] (fun Ω=>[]) [] qh qi qk ql Tryz.func261 (by rfl) (by kernel_rfl) Tryz.call261 ?_ ?_
 ·intro args;unfold qhF;split
  ·exact qt (by repeat' constructor) (fun _ _=>rfl) (by repeat' constructor)
  ·exact PR.good_none
 ·intro P Ω hΩ hE hI hm args pr hs hp Q hQ
  unfold qhF at hs
  split at hs<;>subst hs<;>try (exact hp.elim)
  rename_i i bs
  obtain⟨⟨hb,lb⟩,h0⟩:=hp ()
  refine⟨1000,?_⟩
  conv=>cbv
  constructor
  ·intro hc
   have h1:i >= 8*(bs.length:Int):=by
    subst hΩ
    have h2:=of_decide_eq_true hc
    change i >= binL .mul .i64 8 ((bs.length:Nat):Int)at h2
    rw[qaU (by omega) (by omega)]at h2;exact h2
   conv=>cbv
   refine hQ () _ _ _ trivial ?_
   subst hΩ
   refine⟨rfl,?_⟩
   show(0:Int)=((bitN (nV bs) i.toNat:Nat):Int)
   rw[qul hb (by omega)];rfl
  ·intro hc
   have h1 : ¬ i >= 8*(bs.length:Int):=by
    subst hΩ
    have h2:=of_decide_eq_false hc
    change ¬ i >= binL .mul .i64 8 ((bs.length:Nat):Int)at h2
    rw[qaU (by omega) (by omega)]at h2;exact h2
   obtain⟨n,rfl⟩ : ∃ n:Nat,i=n:=⟨i.toNat,by omega⟩
   have hq8:Ω.bin .quo .i64 (n:Int) 8=((n / 8:Nat):Int):=by subst hΩ;exact qcX n 8 (by omega)
   obtain⟨q,hq⟩ : ∃ q,Ω.bin .quo .i64 (n:Int) 8=q:=⟨_,rfl⟩
   have eq:q=((n / 8:Nat):Int):=hq.symm.trans hq8
   obtain⟨r,hr⟩ : ∃ r,Ω.bin .rem .i64 (n:Int) 8=r:=⟨_,rfl⟩
   have er:r=((n % 8:Nat):Int):=by rw[<- hr,hΩ];exact qeC n 8
   conv at hq=>lhs;cbv
   conv at hr=>lhs;cbv
   conv=>cbv
   rw[hq]
   rw[hr]
   constructor
   ·exact fun _=>⟨by omega,by subst hΩ;show q<((bs.length:Nat):Int);omega⟩
   constructor
   ·exact fun _=>by subst hΩ;show q.toNat+1<=bs.length;omega
   constructor
   ·exact fun _=>by omega
   refine hQ () _ _ _ trivial ?_
   subst hΩ
   refine⟨rfl,?_⟩
   show IntKind.i64.wrap (binL .and .u8 (binL .shr .u8 (bs.getD q.toNat 0) r) 1)=((bitN (nV bs) n:Nat):Int)
   rw[er,eq,Int.toNat_natCast]
   exact quk hb n
end Go.Sx.Tryz
end
section
set_option maxHeartbeats 4000000
namespace Go.Sx.Tryz
open Go.Proofs
set_option maxRecDepth 40000
def qhG (Ω:Om):qd:=fun args=>match args with
 | [.roi .u8 bs,.int .i64 w]=>⟨∀ _:Unit,(Byt bs/\bs.length<=64)/\1<=w/\w<=8,List Int × Nat,fun z=>z.1=qaK (nV bs) w.toNat ((8*bs.length+w.toNat-1) / w.toNat)/\z.1.length<=z.2,fun z =>.tup [.fr .i64 z.1 z.2,.int .i64 0]⟩
 | _=>PR.none
noncomputable def qvL:List (FuncId × Func):=[(220,Tryz.f220),(252,Tryz.f252),(254,Tryz.f254),(253,Tryz.f253)]
theorem qvM:Ctr Tryz.prog T glob 221 (qhG Om.real):=by
 refine qo T_ok qf qg (fun Ω=>[(261,qhF Ω)]) qvL (fun Ω=>[]) [] (qb qvK qh) (qL Tryz.call220 Tryz.func220 (by kernel_rfl) (qL Tryz.call252 Tryz.func252 (by kernel_rfl) (qL Tryz.call254 Tryz.func254 (by kernel_rfl) (qL Tryz.call253 Tryz.func253 (by kernel_rfl) qi)))) qk ql Tryz.func221 (by rfl) (by kernel_rfl) Tryz.call221 ?_ ?_
 ·intro args;unfold qhG;split
  ·exact qdi ⟨trivial,trivial,trivial⟩ fun _=>qa5 _
  ·exact PR.good_none
 ·intro P Ω hΩ hE hI hm args pr hs hp Q hQ
  unfold qhG at hs
  split at hs<;>subst hs<;>try (exact hp.elim)
  rename_i bs w
  obtain⟨⟨hb,lb⟩,w0,w1⟩:=hp ()
  refine⟨1000,?_⟩
  conv=>cbv
  obtain⟨W,eW⟩ : ∃ W:Nat,w=(W:Int):=⟨w.toNat,by omega⟩
  have eW2:w.toNat=W:=by omega
  obtain⟨N,eN⟩ : ∃ N:Nat,N=(8*bs.length+W-1) / W:=⟨_,rfl⟩
  have hNl:N<=8*bs.length+W-1:=by rw[eN];exact Nat.div_le_self _ _
  obtain⟨K,hK⟩ : ∃ K,Ω.bin .quo .i64 (Ω.bin .sub .i64 (Ω.bin .add .i64 (Ω.bin .mul .i64 8 (Ω.ofN (Ω.len bs))) w) 1) w=K:=⟨_,rfl⟩
  have eK:K=(N:Int):=by
   rw[<- hK,hΩ,eN,eW]
   show binL .quo .i64 (binL .sub .i64 (binL .add .i64 (binL .mul .i64 8 ((bs.length:Nat):Int)) W) 1) W=_
   rw[qaU (by omega) (by omega),qw (by omega) (by omega),qO (by omega) (by omega),show 8*((bs.length:Nat):Int)+W-1=((8*bs.length+W-1:Nat):Int)by omega,qcX _ _ (by omega)]
  rw[eW2,<- eN]at hQ
  conv at hK=>lhs;cbv
  conv=>cbv
  constructor
  ·intro h
   have h':False:=by (subst hΩ;have h2:=of_decide_eq_true h;change ((bs.length:Nat):Int) > 64 at h2;omega);first|done|(subst hΩ;exact Bool.noConfusion (show false=true from h))
   contradiction
  intro _
  conv=>cbv
  refine qac hE hI hm (n:=1000) ?_
  conv=>cbv
  constructor
  ·intro h
   have h':False:=by (subst hΩ;have h2:=of_decide_eq_true h;change w<1 at h2;omega);first|done|(subst hΩ;exact Bool.noConfusion (show false=true from h))
   contradiction
  intro _
  conv=>cbv
  constructor
  ·intro h
   have h':False:=by (subst hΩ;have h2:=of_decide_eq_true h;change w > 8 at h2;omega);first|done|(subst hΩ;exact Bool.noConfusion (show false=true from h))
   contradiction
  intro _
  conv=>cbv
  refine qac hE hI hm (n:=1000) ?_
  conv=>cbv
  constructor
  ·exact fun _=>by omega
  rw[hK]
  refine qr hE hI hm (fun z:Nat × List Int × Nat=>(mkT 36 [(0,.roi .u8 bs),(1,.int .i64 w),(4,.val (.slice none 0 0)),(5,.lit .i64 0),(7,.fn 261 [] [.ptr 272 (.l 0)]),(8,.sl 424 1 (.l 0) (.s (Ω.len z.2.1)) (.s z.2.2)),(21,.int .i64 K),(22,.int .i64 z.1)],[(424,.seq .i64 z.2.1),(272,.roi .u8 bs)])) (fun z=>z.1<=N/\z.2.1=qaK (nV bs) W z.1/\z.2.1.length<=z.2.2) (fun z=>N-z.1) 1 ⟨(0,[],0),[none],⟨Nat.zero_le _,rfl,Nat.le_refl _⟩,by show 1<=8*1;decide,?_⟩ fun z hz=>⟨1000,?_⟩
  ·conv=>cbv
   exact⟨by rw[hΩ];rfl,rfl,trivial⟩
  obtain⟨i,l,cap⟩:=z
  obtain⟨hi,hl,hcap⟩:i<=N/\l=qaK (nV bs) W i/\l.length<=cap:=hz
  conv=>cbv
  constructor
  ·intro hc
   have hlt:(i:Int)<K:=by subst hΩ;exact of_decide_eq_true hc
   obtain⟨f,hf⟩ : ∃ f,Ω.bin .mul .i64 (Int.ofNat i) w=f:=⟨_,rfl⟩
   obtain⟨F,eF⟩ : ∃ F:Nat,F=W*i:=⟨_,rfl⟩
   have hF8:W*i<=8*i:=Nat.mul_le_mul_right _ (by omega)
   have ef:f=(F:Int):=by
    rw[<- hf,hΩ,eF,eW]
    show binL .mul .i64 (i:Int) (W:Int)=_
    have h1:(i:Int)*(W:Int)=((W*i:Nat):Int):=by rw[Nat.mul_comm];rfl
    rw[qaU (by omega) (by omega),h1]
   conv at hf=>lhs;cbv
   conv=>cbv
   rw[hf]
   refine qr hE hI hm (fun z:Nat × Int=>(mkT 28 [(0,.fn 261 [] [.ptr 272 (.l 0)]),(1,.int .i64 f),(2,.lit .i64 1),(3,.int .i64 w),(8,.lit .i64 0),(9,.int .i64 z.2),(11,.int .i64 w),(12,.int .i64 z.1)],[(424,.seq .i64 l),(272,.roi .u8 bs)])) (fun z=>z.1<=W/\z.2=((nV bs / 2^F % 2^z.1:Nat):Int)) (fun z=>W-z.1) 0 ⟨(0,0),[],⟨Nat.zero_le _,by show(0:Int)=((nV bs / 2^F % 2^0:Nat):Int);rw[Nat.pow_zero,Nat.mod_one];rfl⟩,Nat.zero_le _,?_⟩ fun z hz=>⟨1000,?_⟩
   ·conv=>cbv
    trivial
   obtain⟨k,n⟩:=z
   obtain⟨hk,hn⟩:k<=W/\n=((nV bs / 2^F % 2^k:Nat):Int):=hz
   conv=>cbv
   constructor
   ·intro hc2
    have hlt2:(k:Int)<w:=by subst hΩ;exact of_decide_eq_true hc2
    obtain⟨p,hp2⟩ : ∃ p,Ω.bin .add .i64 f (Ω.bin .mul .i64 (Int.ofNat k) 1)=p:=⟨_,rfl⟩
    have ep:p=((F+k:Nat):Int):=by
     rw[<- hp2,hΩ,ef]
     show binL .add .i64 (F:Int) (binL .mul .i64 (k:Int) 1)=_
     rw[qaU (by omega) (by omega),qw (by omega) (by omega)];omega
    obtain⟨k2,hk2⟩ : ∃ k2,Ω.bin .add .i64 (Int.ofNat k) 1=k2:=⟨_,rfl⟩
    have ek2:k2=((k+1:Nat):Int):=by
     rw[<- hk2,hΩ]
     show binL .add .i64 (k:Int) 1=_
     rw[qw (by omega) (by omega)];omega
    obtain⟨n2,hn2⟩ : ∃ n2:Int,((nV bs / 2^F % 2^(k+1):Nat):Int)=n2:=⟨_,rfl⟩
    have hst:=qum (nV bs) F (show k<16 by omega)
    rw[hn2,<- hn]at hst
    conv at hp2=>lhs;cbv
    conv at hk2=>lhs;cbv
    conv=>cbv
    rw[hp2]
    constructor
    ·exact fun _ _=>⟨⟨hb,by omega⟩,by omega⟩
    intro _ _
    conv=>cbv
    rw[hk2]
    constructor
    ·exact fun _=>Int.natCast_nonneg k
    refine⟨(k+1,n2),[],⟨by show k+1<=W;omega,hn2.symm⟩,by show W-(k+1)<W-k;omega,Nat.zero_le _,?_⟩
    conv=>cbv
    refine⟨?_,ek2,trivial⟩
    rw[<- hst,hΩ,ep]
    rfl
   ·intro hc2
    have hge : ¬ (k:Int)<w:=by subst hΩ;exact of_decide_eq_false hc2
    have hkW:k=W:=by omega
    rw[hkW]at hn
    have hll:l.length=i:=by rw[hl,qfd]
    obtain⟨l2,hl2⟩ : ∃ l2,l++[n]=l2:=⟨_,rfl⟩
    have el2:l2=qaK (nV bs) W (i+1):=by rw[<- hl2,qun,hl,hn,eF]
    have hl2l:l2.length=i+1:=by rw[el2,qfd]
    obtain⟨i2,hi2⟩ : ∃ i2,Ω.bin .add .i64 (Int.ofNat i) 1=i2:=⟨_,rfl⟩
    have ei2:i2=((i+1:Nat):Int):=by
     rw[<- hi2,hΩ]
     show binL .add .i64 (i:Int) 1=_
     rw[qw (by omega) (by omega)];omega
    have hcat:Ω.cat (Ω.sub l 0 (Ω.len l)) [n]=l2:=by
     rw[hΩ];show(l.drop 0).take l.length++[n]=l2
     rw[List.drop_zero,List.take_length];exact hl2
    have hlen2:Ω.nadd (Ω.len l) 1=Ω.len l2:=by rw[hΩ];show l.length+1=l2.length;omega
    conv at hi2=>lhs;cbv
    conv at hcat=>lhs;cbv
    conv at hlen2=>lhs;cbv
    conv at hlen2=>rhs;cbv
    conv=>cbv
    constructor
    ·exact fun _=>by subst hΩ;show(l.length+1)*8<=140737488355328;omega
    constructor
    ·exact fun _=>by subst hΩ;exact⟨(show 0+l.length*1<=l.length by omega),(show 0+1*1<=1 by decide)⟩
    intro cap2 hcap2
    have hcap3:l2.length<=cap2:=by
     subst hΩ
     have h:l.length+1<=cap2:=hcap2
     omega
    conv=>cbv
    rw[hcat,hi2]
    rw[hlen2]
    refine⟨(i+1,l2,cap2),[some 520],⟨by show i+1<=N;omega,el2,hcap3⟩,by show N-(i+1)<N-i;omega,by show 1<=8*1;decide,?_⟩
    conv=>cbv
    exact⟨ei2,trivial⟩
  ·intro hc
   have hge : ¬ (i:Int)<K:=by subst hΩ;exact of_decide_eq_false hc
   have hiN:i=N:=by omega
   rw[hiN]at hl
   have hsl:Ω.sub l 0 (Ω.len l)=l:=by
    rw[hΩ];show(l.drop 0).take l.length=l
    rw[List.drop_zero,List.take_length]
   conv=>cbv
   refine hQ (l,cap) _ _ _ ⟨hl,hcap⟩ ?_
   rw[hΩ]at hsl
   subst hΩ
   exact⟨⟨⟨rfl,rfl,(show 0+l.length<=l.length by omega),hsl.symm⟩,⟨rfl,rfl⟩,trivial⟩,rfl,rfl⟩
end Go.Sx.Tryz
end
section
set_option maxHeartbeats 4000000
namespace Go.Sx.Tryz
open Go.Proofs
set_option maxRecDepth 40000
theorem v16 {bs:List Int} (h:Byt bs):nV bs<16^(2*bs.length):=by
 have:=qbT h
 rw[Nat.pow_mul]
 exact this
def qhH (Ω:Om):qd:=fun args=>match args with
 | [.roi .u8 bs,.int .i64 w]=>⟨∀ _:Unit,(Byt bs/\bs.length<=64)/\w=4,List Int × Nat,fun z=>(z.1.length=2*bs.length+1/\Sg z.1/\valB 16 z.1=((nV bs:Nat):Int))/\z.1.length<=z.2,fun z =>.tup [.fr .i64 z.1 z.2,.int .i64 0]⟩
 | _=>PR.none
noncomputable def qvN:List (FuncId × Func):=[(220,Tryz.f220)]
theorem qvO:Ctr Tryz.prog T glob 142 (qhH Om.real):=by
 refine qo T_ok qf qg (fun Ω=>[(221,qhG Ω)]) qvN (fun Ω=>[]) [] (qb qvM qh) (qL Tryz.call220 Tryz.func220 (by kernel_rfl) qi) qk ql Tryz.func142 (by rfl) (by kernel_rfl) Tryz.call142 ?_ ?_
 ·intro args;unfold qhH;split
  ·exact qdi ⟨trivial,trivial,trivial⟩ fun h=>by obtain⟨l,h1,h2,h3⟩:=qoG (2*_) (nV _) 0 (v16 (h ()).1.1) (.inl rfl);exact⟨(l,l.length),⟨h1,h2,h3.trans (Int.add_zero _)⟩,Nat.le_refl _⟩
  ·exact PR.good_none
 ·intro P Ω hΩ hE hI hm args pr hs hp Q hQ
  unfold qhH at hs
  split at hs<;>subst hs<;>try (exact hp.elim)
  rename_i bs w
  obtain⟨⟨hb,lb⟩,hw⟩:=hp ()
  obtain⟨N,eN⟩ : ∃ N,N=2*bs.length:=⟨_,rfl⟩
  have hV:=v16 hb
  rw[<- eN]at hQ hV
  refine⟨1000,?_⟩
  conv=>cbv
  constructor
  ·intro h
   have h':False:=by (subst hΩ;have h2:=of_decide_eq_true h;change ((bs.length:Nat):Int) > 64 at h2;omega);first|done|(subst hΩ;exact Bool.noConfusion (show false=true from h))
   contradiction
  intro _
  conv=>cbv
  refine qac hE hI hm (n:=1000) ?_
  conv=>cbv
  constructor
  ·intro h
   have h':False:=by (subst hΩ;have h2:=of_decide_eq_true h;change w<2 at h2;omega);first|done|(subst hΩ;exact Bool.noConfusion (show false=true from h))
   contradiction
  intro _
  conv=>cbv
  constructor
  ·intro h
   have h':False:=by (subst hΩ;have h2:=of_decide_eq_true h;change w > 8 at h2;omega);first|done|(subst hΩ;exact Bool.noConfusion (show false=true from h))
   contradiction
  intro _
  conv=>cbv
  refine qac hE hI hm (n:=1000) ?_
  conv=>cbv
  constructor
  ·exact fun _ _=>⟨⟨hb,lb⟩,by omega,by omega⟩
  intro z hz
  obtain⟨zl,zc⟩:=z
  have hz:zl=qaK (nV bs) 4 N/\zl.length<=zc:=by
   subst hΩ
   have h:zl=qaK (nV bs) w.toNat ((8*bs.length+w.toNat-1) / w.toNat)/\zl.length<=zc:=hz
   rw[hw]at h
   refine⟨h.1.trans ?_,h.2⟩
   show qaK (nV bs) 4 ((8*bs.length+4-1) / 4)=qaK (nV bs) 4 N
   congr 1;omega
  have hzl:zl.length=N:=by rw[hz.1,qfd]
  obtain⟨K,hK⟩ : ∃ K,Ω.ofN (Ω.len zl)=K:=⟨_,rfl⟩
  have eK:K=(N:Int):=by rw[<- hK,hΩ];show((zl.length:Nat):Int)=_;omega
  conv at hK=>lhs;cbv
  conv=>cbv
  constructor
  ·intro h
   have h':False:=by (subst hΩ;exact absurd h (by decide));first|done|(subst hΩ;exact Bool.noConfusion (show false=true from h))
   contradiction
  intro _
  conv=>cbv
  rw[hK]
  refine qr hE hI hm (fun z:Nat × Int × List Int=>(mkT 63 [(0,.roi .u8 bs),(1,.int .i64 w),(4,.val (.slice none 0 0)),(5,.lit .i64 0),(7,.sl 264 1 (.l 0) (.s (Ω.len zl)) (.s zc)),(9,.int .i64 z.2.1),(28,.int .i64 K),(29,.int .i64 z.1)],[(264,.seq .i64 z.2.2)])) (fun z=>z.1<=N/\Sgs (nV bs) N z.1 z.2.1 z.2.2) (fun z=>N-z.1) 0 ⟨(0,0,zl),[],⟨Nat.zero_le _,by rw[hz.1];exact Sgs.start⟩,Nat.zero_le _,?_⟩ fun z hz2=>⟨1000,?_⟩
  ·conv=>cbv
   trivial
  obtain⟨i,o,l⟩:=z
  obtain⟨hi,hS⟩:i<=N/\Sgs (nV bs) N i o l:=hz2
  conv=>cbv
  constructor
  ·intro hc
   have hlt:(i:Int)<K:=by subst hΩ;exact of_decide_eq_true hc
   obtain⟨d,hd'⟩ : ∃ d,Ω.at' l (Ω.toN (Int.ofNat i))=d:=⟨_,rfl⟩
   have ed:d=l.getD i 0:=by rw[<- hd',hΩ];rfl
   obtain⟨t,ht⟩ : ∃ t,Ω.bin .add .i64 d o=t:=⟨_,rfl⟩
   obtain⟨l1,hl1⟩ : ∃ l1,Ω.set l (Ω.toN (Int.ofNat i)) t=l1:=⟨_,rfl⟩
   obtain⟨t1,ht1⟩ : ∃ t1,Ω.at' l1 (Ω.toN (Int.ofNat i))=t1:=⟨_,rfl⟩
   obtain⟨o1,ho1⟩ : ∃ o1,Ω.bin .quo .i64 (Ω.bin .add .i64 (Ω.bin .shr .i64 t1 (Ω.bin .sub .i64 w 1)) 1) 2=o1:=⟨_,rfl⟩
   obtain⟨t2,ht2⟩ : ∃ t2,Ω.bin .sub .i64 t1 (Ω.bin .shl .i64 o1 w)=t2:=⟨_,rfl⟩
   obtain⟨l2,hl2⟩ : ∃ l2,Ω.set l1 (Ω.toN (Int.ofNat i)) t2=l2:=⟨_,rfl⟩
   obtain⟨i2,hi2⟩ : ∃ i2,Ω.bin .add .i64 (Int.ofNat i) 1=i2:=⟨_,rfl⟩
   have ei2:i2=((i+1:Nat):Int):=by
    rw[<- hi2,hΩ]
    show binL .add .i64 (i:Int) 1=_
    rw[qw (by omega) (by omega)];omega
   have hov:=hS.ov
   have hst0:=hS.step (o':=((l.getD i 0+o) / 8+1) / 2) (by omega) rfl
   obtain⟨hdr,hor,hst⟩:=hst0
   rw[<- ed]at hdr hst hor
   have hll:=hS.len
   have et:t=d+o:=by rw[<- ht,hΩ];exact qw (by omega) (by omega)
   have el1:l1=l.set i t:=by rw[<- hl1,hΩ];rfl
   have et1:t1=t:=by
    rw[<- ht1,hΩ,el1]
    show(l.set i t).getD i 0=t
    rw[getD_set (by omega),if_pos rfl]
   have eo1:o1=((d+o) / 8+1) / 2:=by
    rw[<- ho1,hΩ,et1,et,hw]
    show binL .quo .i64 (binL .add .i64 (binL .shr .i64 (d+o) (binL .sub .i64 4 1)) 1) 2=_
    rw[qO (by omega) (by omega),show(4:Int)-1=((3:Nat):Int) from rfl,qui _ (by decide),show((2^3:Nat):Int)=8 from rfl,qw (by omega) (by omega)]
    have e:(d+o) / 8+1=(((d+o) / 8+1).toNat:Int):=by omega
    rw[e]
    exact qcX _ 2 (by omega)
   have et2:t2=d+o-o1*16:=by
    rw[<- ht2,hΩ,et1,et,hw]
    show binL .sub .i64 (d+o) (binL .shl .i64 o1 4)=_
    have e:o1=((o1.toNat:Nat):Int):=by omega
    rw[e,show(4:Int)=((4:Nat):Int) from rfl,qoF (by decide) (by omega),qO (by omega) (by omega)]
    omega
   have el2:l2=l.set i (d+o-o1*16):=by
    rw[<- hl2,hΩ,el1,et2]
    show(l.set i t).set i _=_
    rw[List.set_set]
   rw[<- eo1,<- el2]at hst
   have hst3:Sgs (nV bs) N (i+1) o1 l2:=hst
   have hll1:l1.length=N:=by rw[el1,List.length_set];exact hll
   conv at hi2=>lhs;cbv
   conv at hd'=>lhs;cbv
   conv at ht=>lhs;cbv
   conv at hl1=>lhs;cbv
   conv at ht1=>lhs;cbv
   conv at ho1=>lhs;cbv
   conv at ht2=>lhs;cbv
   conv at hl2=>lhs;cbv
   conv=>cbv
   rw[hd',ht,hl1]
   rw[ht1]
   rw[ho1]
   rw[ht2]
   rw[hl2,hi2]
   constructor
   ·exact fun _=>⟨Int.natCast_nonneg i,by rw[hΩ];show(i:Int)<((zl.length:Nat):Int);omega⟩
   constructor
   ·exact fun _=>by rw[hΩ];show i+1<=l.length;omega
   constructor
   ·exact fun _=>⟨Int.natCast_nonneg i,by rw[hΩ];show(i:Int)<((zl.length:Nat):Int);omega⟩
   constructor
   ·exact fun _=>by rw[hΩ];show i<l.length;omega
   constructor
   ·exact fun _=>⟨Int.natCast_nonneg i,by rw[hΩ];show(i:Int)<((zl.length:Nat):Int);omega⟩
   constructor
   ·exact fun _=>by rw[hΩ];show i+1<=l1.length;omega
   constructor
   ·exact fun _=>by rw[hΩ];show 0<=binL .sub .i64 w 1;rw[qO (by omega) (by omega)];omega
   constructor
   ·exact fun _=>⟨Int.natCast_nonneg i,by rw[hΩ];show(i:Int)<((zl.length:Nat):Int);omega⟩
   constructor
   ·exact fun _=>by rw[hΩ];show i+1<=l1.length;omega
   constructor
   ·exact fun _=>by omega
   constructor
   ·exact fun _=>⟨Int.natCast_nonneg i,by rw[hΩ];show(i:Int)<((zl.length:Nat):Int);omega⟩
   constructor
   ·exact fun _=>by rw[hΩ];show i<l1.length;omega
   refine⟨(i+1,o1,l2),[],⟨by show i+1<=N;omega,hst3⟩,by show N-(i+1)<N-i;omega,Nat.zero_le _,?_⟩
   conv=>cbv
   exact⟨ei2,trivial⟩
  ·intro hc
   have hge : ¬ (i:Int)<K:=by subst hΩ;exact of_decide_eq_false hc
   have hiN:i=N:=by omega
   subst hiN
   obtain⟨f1,f2,f3⟩:=hS.done hV
   have hll:=hS.len
   conv=>cbv
   constructor
   ·exact fun _=>by subst hΩ;show(zl.length+1)*8<=140737488355328;omega
   constructor
   ·exact fun _=>by subst hΩ;exact⟨(show 0+zl.length*1<=l.length by omega),(show 0+1*1<=1 by decide)⟩
   intro cap2 hcap2
   have hcap3:i+1<=cap2:=by
    subst hΩ
    have h:zl.length+1<=cap2:=hcap2
    omega
   conv=>cbv
   refine hQ (l++[o],cap2) _ _ _ ⟨⟨f3,f2,f1⟩,by show(l++[o]).length<=cap2;rw[f3];exact hcap3⟩ ?_
   subst hΩ
   have hsub:(l.drop 0).take zl.length=l:=by rw[List.drop_zero,List.take_of_length_le (by omega)]
   refine⟨⟨⟨rfl,rfl,?_,?_⟩,⟨rfl,rfl⟩,trivial⟩,rfl,rfl⟩
   ·show 0+(zl.length+1)<=((l.drop 0).take zl.length++[o]).length
    rw[hsub,f3];omega
   ·show l++[o]=(((l.drop 0).take zl.length++[o]).drop 0).take (zl.length+1)
    rw[hsub,List.drop_zero,List.take_of_length_le (by omega)]
end Go.Sx.Tryz
end
section

end
