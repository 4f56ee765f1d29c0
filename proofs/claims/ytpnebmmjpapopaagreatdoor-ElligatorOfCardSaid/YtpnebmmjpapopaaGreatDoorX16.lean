/-
  Part of the proof of a statement: the means.
-/
import Derived.Test.YtpnebmmjpapopaaGreatDoorX15
import Derived.Test.YtpnebmmjpapopaaGreatDoorX81
import Derived.Test.YtpnebmmjpapopaaGreatDoorX13
set_option linter.unusedSectionVars false
set_option linter.unusedVariables false
set_option linter.unusedSimpArgs false
set_option linter.deprecated false
section
set_option maxHeartbeats 4000000
namespace Go.Sx.Tryz
open Go.Proofs
set_option maxRecDepth 40000
theorem qvP {args:List SVal} {p:Prop} {post:List AP × Nat->Prop} (hc:IdsLtL noId args) (h:p -> ∃ x,post x):PR.Good ⟨p,List AP × Nat,post,fun z =>.fra (.pt z.1) z.2⟩ args :=
 ⟨fun _=>trivial,fun E x b q hq=>by simp[place]at hq;subst hq;exact⟨Nat.le_refl _,by simp⟩,fun _=>hc,h⟩
theorem qvQ (l:List AP) : ∃ x:List AP × Nat,x.1=l/\x.1.length<=x.2:=⟨(l,l.length),rfl,Nat.le_refl _⟩
abbrev Z32:SVal :=.agg [.agg [.row .u64 8 [0,0,0,0,0,0,0,0]],.agg [.row .u64 8 [0,0,0,0,0,0,0,0]],.agg [.row .u64 8 [0,0,0,0,0,0,0,0]]]
def qhI (Ω:Om):qd:=fun args=>match args with
 | [.int .i64 a,.int .i64 b]=>⟨∀ _:Unit,(0<=a/\a<1000)/\0<=b/\b<1000,Unit,fun _=>True,fun _ =>.int .i64 (Ω.hide _ fun _=>if a=b then 1 else 0)⟩
 | _=>PR.none
theorem qvR:Ctr Tryz.prog T glob 223 (qhI Om.real):=by
 refine qo T_ok qf qg (fun Ω=>[]) [] (fun Ω=>[]) [] qh qi qk ql Tryz.func223 (by rfl) (by kernel_rfl) Tryz.call223 ?_ ?_
 ·intro args;unfold qhI;split
  ·exact qt (by repeat' constructor) (fun _ _=>rfl) (by repeat' constructor)
  ·exact PR.good_none
 ·intro P Ω hΩ hE hI hm args pr hs hp Q hQ
  unfold qhI at hs
  split at hs<;>subst hs<;>try (exact hp.elim)
  rename_i a b
  obtain⟨ha,hb⟩:=hp ()
  refine⟨1000,?_⟩
  conv=>cbv
  refine hQ () _ _ _ trivial ?_
  subst hΩ
  exact⟨rfl,quE ha hb⟩
def qhJ (Ω:Om):qd:=fun args=>match args with
 | [.roa (.pt l),.int .i64 i]=>⟨∀ _:Unit,(0<=i/\i<l.length)/\l.length<1000,Unit,fun _=>True,fun _ =>.tup [.ab (.pt (Ω.hide _ fun _=>l.getD i.toNat ⟨0,1⟩)),.int .i64 0]⟩
 | _=>PR.none
theorem qvS:Ctr Tryz.prog T glob 146 (qhJ Om.real):=by
 refine qo T_ok qf qg (fun Ω=>[(120,qdP Ω),(223,qhI Ω),(147,qe0 Ω)]) [] (fun Ω=>[]) [] (qb qjY (qb qvR (qb qnW qh))) qi qk ql Tryz.func146 (by rfl) (by kernel_rfl) Tryz.call146 ?_ ?_
 ·intro args;unfold qhJ;split
  ·exact qt (by repeat' constructor) (fun _ _=>rfl) (by repeat' constructor)
  ·exact PR.good_none
 ·intro P Ω hΩ hE hI hm args pr hs hp Q hQ
  unfold qhJ at hs
  split at hs<;>subst hs<;>try (exact hp.elim)
  rename_i l i
  obtain⟨⟨h0,h1⟩,h2⟩:=hp ()
  refine⟨1000,?_⟩
  conv=>cbv
  constructor
  ·intro h
   have h':False:=by (subst hΩ;have h2:=of_decide_eq_true h;change i<0 at h2;omega);first|done|(subst hΩ;exact Bool.noConfusion (show false=true from h))
   contradiction
  intro _
  conv=>cbv
  constructor
  ·intro h
   have h':False:=by (subst hΩ;have h2:=of_decide_eq_true h;change i >= ((l.length:Nat):Int)at h2;omega);first|done|(subst hΩ;exact Bool.noConfusion (show false=true from h))
   contradiction
  intro _
  conv=>cbv
  constructor;(first|exact fun(_:Unit)=>trivial|exact fun(_:Unit) (_:Unit)=>(by decide));intro _ _;conv=>cbv
  obtain⟨K,hK⟩ : ∃ K,Ω.ofN (Ω.hide Nat fun _=>l.length)=K:=⟨_,rfl⟩
  have eK:K=(l.length:Int):=by rw[<- hK,hΩ];rfl
  conv at hK=>lhs;cbv
  rw[hK]
  obtain⟨n,hn⟩ : ∃ n,i.toNat=n:=⟨_,rfl⟩
  obtain⟨P0,hP0⟩ : ∃ P0,P0=pid:=⟨_,rfl⟩
  refine qr hE hI hm (fun z:Nat × AP=>(mkT 34 [(0,.roa (.pt l)),(1,.int .i64 i),(4,.ptr 0 (.l 0)),(5,.lit .i64 0),(6,.ptr 88 (.l 0)),(19,.roa (.pt l)),(20,.int .i64 K),(21,.int .i64 z.1)],[(88,.ab (.pt z.2)),(0,Z32)])) (fun z=>z.1<=l.length/\(n<z.1->z.2=l.getD n ⟨0,1⟩)) (fun z=>l.length-z.1) 0 ⟨(0,P0),[],⟨Nat.zero_le _,fun h=>absurd h (Nat.not_lt_zero _)⟩,Nat.zero_le _,?_⟩ fun z hz=>⟨1000,?_⟩
  ·conv=>cbv
   subst hΩ
   exact⟨rfl,by rw[hP0];rfl,trivial⟩
  obtain⟨k,X⟩:=z
  obtain⟨hk,hX⟩:k<=l.length/\(n<k->X=l.getD n ⟨0,1⟩):=hz
  conv=>cbv
  constructor
  ·intro hc
   have hlt:(k:Int)<K:=by subst hΩ;exact of_decide_eq_true hc
   conv=>cbv
   constructor
   ·exact fun _=>⟨Int.natCast_nonneg k,by subst hΩ;show(k:Int)<((l.length:Nat):Int);omega⟩
   constructor
   ·exact fun _=>by subst hΩ;show k<l.length;omega
   constructor
   ·exact fun _ _=>⟨⟨Int.natCast_nonneg k,(show(k:Int)<1000 by omega)⟩,h0,by omega⟩
   intro _ _
   conv=>cbv
   constructor;(first|exact fun(_:Unit)=>trivial|exact fun(_:Unit) (_:Unit)=>(by decide));intro _ _;conv=>cbv
   obtain⟨X2,hX2⟩ : ∃ X2,(if (if (k:Int)=i then (1:Int) else 0) % 2=0 then X else l.getD k ⟨0,1⟩)=X2:=⟨_,rfl⟩
   refine⟨(k+1,X2),[],⟨by show k+1<=l.length;omega,fun h => ?_⟩,by show l.length-(k+1)<l.length-k;omega,Nat.zero_le _,?_⟩
   ·show X2=_
    rw[<- hX2]
    by_cases e:(k:Int)=i
    ·rw[if_pos e,if_neg (by decide),show n=k by omega]
    ·rw[if_neg e,if_pos (by decide)]
     exact hX (by have h':n<k+1:=h;omega)
   ·conv=>cbv
    subst hΩ
    refine⟨?_,?_,trivial⟩
    ·show binL .add .i64 (k:Int) 1=((k+1:Nat):Int)
     rw[qw (by omega) (by omega)];omega
    ·exact congrArg Pay.pt hX2
  ·intro hc
   have hge : ¬ (k:Int)<K:=by subst hΩ;exact of_decide_eq_false hc
   conv=>cbv
   refine hQ () _ _ _ trivial ?_
   subst hΩ
   refine⟨⟨?_,⟨rfl,rfl⟩,trivial⟩,rfl,rfl⟩
   show Pay.pt X=Pay.pt (l.getD i.toNat ⟨0,1⟩)
   rw[hX (by omega),hn]
def qhK (Ω:Om):qd:=fun args=>match args with
 | [.ab (.pt A),.ab (.pt B),.int .i64 n]=>⟨∀ _:Unit,n=8\/n=9,List AP × Nat,fun z=>z.1=qaM A B n.toNat/\z.1.length<=z.2,fun z =>.fra (.pt z.1) z.2⟩
 | _=>PR.none
theorem qvT:Ctr Tryz.prog T glob 143 (qhK Om.real):=by
 refine qo T_ok qf qg (fun Ω=>[(60,qdR Ω)]) [] (fun Ω=>[]) [] (qb qj0 qh) qi qk ql Tryz.func143 (by rfl) (by kernel_rfl) Tryz.call143 ?_ ?_
 ·intro args;unfold qhK;split
  ·exact qvP ⟨trivial,trivial,trivial,trivial⟩ fun _=>qvQ _
  ·exact PR.good_none
 ·intro P Ω hΩ hE hI hm args pr hs hp Q hQ
  unfold qhK at hs
  split at hs<;>subst hs<;>try (exact hp.elim)
  rename_i A B n
  have hn:=hp ()
  refine⟨1000,?_⟩
  conv=>cbv
  refine qac hE hI hm (n:=1000) ?_
  conv=>cbv
  constructor
  rotate_left
  ·intro h
   have h':False:=by (subst hΩ;have h2:=of_decide_eq_false h;change ¬ (0:Int)<n at h2;omega);first|done|(subst hΩ;exact Bool.noConfusion (show true=false from h))
   contradiction
  intro _
  conv=>cbv
  constructor
  ·exact fun _=>(by decide:(0+1)*192<=140737488355328)
  constructor
  ·exact fun _=>⟨rfl,rfl,by decide⟩
  intro cap hcap
  have hcap1:1<=cap:=by have h:0+1<=cap:=hcap;omega
  conv=>cbv
  constructor;(first|exact fun(_:Unit)=>trivial|exact fun(_:Unit) (_:Unit)=>(by decide));intro _ _;conv=>cbv
  obtain⟨N,hN⟩ : ∃ N:Nat,n=N:=⟨n.toNat,by omega⟩
  have hN2:n.toNat=N:=by omega
  rw[hN2]at hQ
  obtain⟨Ps0,hPs0⟩ : ∃ Ps0,Ps0=[A]:=⟨_,rfl⟩
  obtain⟨X0,hX0⟩ : ∃ X0,X0=padd A B:=⟨_,rfl⟩
  refine qr hE hI hm (fun z:Nat × List AP × AP × Nat=>(mkT 20 [(2,.int .i64 n),(3,.ptr 0 (.l 0)),(4,.ptr 8 (.l 0)),(6,.val (.slice none 0 0)),(7,.sl 144 24 (.l 0) (.s z.1) (.s z.2.2.2)),(8,.int .i64 n),(9,.int .i64 z.1)],[(144,.sab (.pt z.2.1)),(8,.ab (.pt B)),(0,.ab (.pt z.2.2.1))])) (fun z=>z.1<=N/\z.2.1++qaM z.2.2.1 B (N-z.1)=qaM A B N/\z.2.1.length=z.1/\z.1<=z.2.2.2) (fun z=>N-z.1) 1 ⟨(1,Ps0,X0,cap),[some 80],⟨by show 1<=N;omega,?_,by rw[hPs0];rfl,hcap1⟩,by decide,?_⟩ fun z hz=>⟨1000,?_⟩
  ·show Ps0++qaM X0 B (N-1)=qaM A B N
   rw[hPs0,hX0]
   obtain⟨M,rfl⟩ : ∃ M,N=M+1:=⟨N-1,by omega⟩
   rfl
  ·conv=>cbv
   subst hΩ
   exact⟨rfl,by rw[hPs0];rfl,by rw[hX0];rfl⟩
  obtain⟨i,Ps,X,c⟩:=z
  obtain⟨hi,hPs,hl,hc⟩:i<=N/\Ps++qaM X B (N-i)=qaM A B N/\Ps.length=i/\i<=c:=hz
  conv=>cbv
  constructor
  ·intro hc2
   have hlt:(i:Int)<n:=by subst hΩ;exact of_decide_eq_true hc2
   conv=>cbv
   constructor
   ·exact fun _=>(show(i+1)*192<=140737488355328 by omega)
   constructor
   ·exact fun _=>⟨hl.symm,rfl,by decide⟩
   intro cap2 hcap2
   have hcap3:i+1<=cap2:=hcap2
   conv=>cbv
   constructor;(first|exact fun(_:Unit)=>trivial|exact fun(_:Unit) (_:Unit)=>(by decide));intro _ _;conv=>cbv
   obtain⟨Ps2,hPs2⟩ : ∃ Ps2,Ps2=Ps++[X]:=⟨_,rfl⟩
   obtain⟨X2,hX2⟩ : ∃ X2,X2=padd X B:=⟨_,rfl⟩
   refine⟨(i+1,Ps2,X2,cap2),[some 184],⟨by show i+1<=N;omega,?_,by show Ps2.length=i+1;rw[hPs2,List.length_append,hl];rfl,hcap3⟩,by show N-(i+1)<N-i;omega,by decide,?_⟩
   ·show Ps2++qaM X2 B (N-(i+1))=qaM A B N
    rw[<- hPs,hPs2,hX2,show N-i=(N-(i+1))+1 by omega,List.append_assoc]
    rfl
   ·conv=>cbv
    subst hΩ
    refine⟨rfl,?_,by rw[hPs2];rfl,by rw[hX2];rfl⟩
    show binL .add .i64 (i:Int) 1=((i+1:Nat):Int)
    rw[qw (by omega) (by omega)];omega
  ·intro hc2
   have hge : ¬ (i:Int)<n:=by subst hΩ;exact of_decide_eq_false hc2
   have hiN:N-i=0:=by omega
   rw[hiN]at hPs
   have hPs2:Ps=qaM A B N:=by rw[<- hPs];exact(List.append_nil _).symm
   conv=>cbv
   refine hQ (Ps,c) _ _ _ ⟨hPs2,by show Ps.length<=c;omega⟩ ?_
   subst hΩ
   exact⟨rfl,rfl,hl.symm,rfl⟩
end Go.Sx.Tryz
end
section

end
section
set_option maxHeartbeats 4000000
namespace Go.Sx.Tryz
open Go.Proofs
set_option maxRecDepth 40000
def qhL (Ω:Om):qd:=fun args=>match args with
 | [.roi .u8 bs,.ab (.pt P)]=>⟨∀ _:Unit,(P.on/\Byt bs)/\0<bs.length/\bs.length<=64,Unit,fun _=>True,fun _ =>.tup [.ab (.pt (Ω.hide _ fun _=>nsm (nV bs) P)),.int .i64 0]⟩
 | _=>PR.none
noncomputable def qvU:List (FuncId × Func):=[(141,Tryz.f141),(144,Tryz.f144),(222,Tryz.f222)]
theorem qvV:Ctr Tryz.prog T glob 56 (qhL Om.real):=by
 refine qo T_ok qf qg (fun Ω=>[(120,qdP Ω),(142,qhH Ω),(143,qhK Ω),(145,qgX Ω),(146,qhJ Ω),(136,qgY Ω),(147,qe0 Ω),(60,qdR Ω)]) qvU (fun Ω=>[]) [] (qb qjY (qb qvO (qb qvT (qb qte (qb qvS (qb qtf (qb qnW (qb qj0 qh)))))))) (qL Tryz.call141 Tryz.func141 (by kernel_rfl) (qL Tryz.call144 Tryz.func144 (by kernel_rfl) (qL Tryz.call222 Tryz.func222 (by kernel_rfl) qi))) qk ql Tryz.func56 (by rfl) (by kernel_rfl) Tryz.call56 ?_ ?_
 ·intro args;unfold qhL;split
  ·exact qt (by repeat' constructor) (fun _ _=>rfl) (by repeat' constructor)
  ·exact PR.good_none
 ·intro P Ω hΩ hE hI hm args pr hs hp Q hQ
  unfold qhL at hs
  split at hs<;>subst hs<;>try (exact hp.elim)
  rename_i bs P0
  obtain⟨⟨hP,hb⟩,l0,l1⟩:=hp ()
  refine⟨1000,?_⟩
  conv=>cbv
  constructor
  ·intro h
   have h':False:=by (subst hΩ;have h2:=eq_of_beq h;change ((bs.length:Nat):Int)=0 at h2;omega);first|done|(subst hΩ;exact Bool.noConfusion (show false=true from h))
   contradiction
  intro _
  conv=>cbv
  constructor
  ·intro h
   have h':False:=by (subst hΩ;have h2:=of_decide_eq_true h;change ((bs.length:Nat):Int) > 64 at h2;omega);first|done|(subst hΩ;exact Bool.noConfusion (show false=true from h))
   contradiction
  intro _
  conv=>cbv
  constructor
  ·exact fun _ _=>⟨⟨hb,l1⟩,rfl⟩
  intro z hz
  obtain⟨zl,zc⟩:=z
  have hz:(zl.length=2*bs.length+1/\Sg zl/\valB 16 zl=((nV bs:Nat):Int))/\zl.length<=zc:=by subst hΩ;exact hz
  obtain⟨⟨hzl,hzs,hzv⟩,hzc⟩:=hz
  conv=>cbv
  constructor
  ·intro h
   have h':False:=by (subst hΩ;exact absurd h (by decide));first|done|(subst hΩ;exact Bool.noConfusion (show false=true from h))
   contradiction
  intro _
  conv=>cbv
  constructor;(first|exact fun(_:Unit)=>trivial|exact fun(_:Unit) (_:Unit)=>(by decide));intro _ _;conv=>cbv
  constructor
  ·exact fun _ _ =>.inr rfl
  intro y hy
  obtain⟨T0,Tc⟩:=y
  have hT:T0=qaM pid P0 9/\T0.length<=Tc:=by subst hΩ;exact hy
  have hTl:T0.length=9:=by rw[hT.1,qoN]
  conv=>cbv
  constructor;(first|exact fun(_:Unit)=>trivial|exact fun(_:Unit) (_:Unit)=>(by decide));intro _ _;conv=>cbv
  obtain⟨N,eN⟩ : ∃ N,N=zl.length:=⟨_,rfl⟩
  obtain⟨j0,hj0⟩ : ∃ j0,Ω.bin .sub .i64 (Ω.ofN (Ω.len zl)) 1=j0:=⟨_,rfl⟩
  have ej0:j0=(N:Int)-1:=by
   rw[<- hj0,hΩ,eN]
   show binL .sub .i64 ((zl.length:Nat):Int) 1=_
   rw[qO (by omega) (by omega)]
  obtain⟨X0,hX0⟩ : ∃ X0,X0=pid:=⟨_,rfl⟩
  conv at hj0=>lhs;cbv
  refine qr hE hI hm (fun z:Nat × Int × AP=>(mkT 19 [(0,.yld 328),(1,.ptr 296 (.l 0)),(3,.int .i64 z.2.1)],[(296,.sl 152 1 (.l 0) (.s (Ω.len zl)) (.s zc)),(264,.ab (.pt z.2.2)),(240,.sl 232 24 (.l 0) (.s (Ω.hide Nat fun _=>T0.length)) (.s Tc)),(232,.sab (.pt T0)),(152,.seq .i64 zl),(16,.lit .i64 0),(8,Z32)])) (fun z=>z.1<=N/\z.2.1=(z.1:Int)-1/\z.2.2=zsm (valB 16 (zl.drop z.1)) P0) (fun z=>z.1) 0 ⟨(N,j0,X0),[],⟨Nat.le_refl _,ej0,?_⟩,Nat.zero_le _,?_⟩ fun z hz=>⟨1000,?_⟩
  ·show X0=zsm (valB 16 (zl.drop N)) P0
   rw[eN,List.drop_length,hX0]
   rfl
  ·conv=>cbv
   rw[hX0]
   subst hΩ
   exact⟨hj0,rfl,trivial⟩
  obtain⟨k,j,X⟩:=z
  obtain⟨hk,hj,hX⟩:k<=N/\j=(k:Int)-1/\X=zsm (valB 16 (zl.drop k)) P0:=hz
  conv=>cbv
  constructor
  ·intro hc
   have h1:0<=j:=by subst hΩ;exact of_decide_eq_true hc
   obtain⟨i,rfl⟩ : ∃ i:Nat,j=i:=⟨j.toNat,by omega⟩
   obtain⟨d,hd⟩ : ∃ d,Ω.at' zl (Ω.toN (i:Int))=d:=⟨_,rfl⟩
   have ed:d=zl.getD i 0:=by rw[<- hd,hΩ];rfl
   conv at hd=>lhs;cbv
   conv=>cbv
   constructor
   ·exact fun _=>⟨h1,by subst hΩ;show(i:Int)<((zl.length:Nat):Int);omega⟩
   constructor
   ·exact fun _=>by subst hΩ;show i+1<=zl.length;omega
   rw[hd]
   have hd8 : -8<=d/\d<=8:=hzs d (by rw[ed];exact q9 (by omega))
   obtain⟨g1,g2⟩:=quC hd8
   obtain⟨q,hq⟩ : ∃ q,Ω.bin .sub .i64 (Ω.bin .xor .i64 d (Ω.bin .shr .i64 d 63)) (Ω.bin .shr .i64 d 63)=q:=⟨_,rfl⟩
   have eq:q=absD d:=by rw[<- hq,hΩ];exact g1
   obtain⟨b,hb'⟩ : ∃ b,Ω.bin .and .i64 (Ω.bin .shr .i64 d 63) 1=b:=⟨_,rfl⟩
   have eb:b=if d<0 then 1 else 0:=by rw[<- hb',hΩ];exact g2
   have hTl2:((T0.length:Nat):Int)=9:=by rw[hTl];rfl
   have hq8:0<=q/\q<=8:=by rw[eq];unfold absD;split<;>omega
   conv at hq=>lhs;cbv
   conv at hb'=>lhs;cbv
   refine qac hE hI hm (n:=1000) ?_
   conv=>cbv
   constructor;(first|exact fun(_:Unit)=>trivial|exact fun(_:Unit) (_:Unit)=>(by decide));intro _ _;conv=>cbv
   refine qac hE hI hm (n:=1000) ?_
   conv=>cbv
   constructor;(first|exact fun(_:Unit)=>trivial|exact fun(_:Unit) (_:Unit)=>(by decide));intro _ _;conv=>cbv
   refine qac hE hI hm (n:=1000) ?_
   conv=>cbv
   constructor;(first|exact fun(_:Unit)=>trivial|exact fun(_:Unit) (_:Unit)=>(by decide));intro _ _;conv=>cbv
   refine qac hE hI hm (n:=1000) ?_
   conv=>cbv
   constructor;(first|exact fun(_:Unit)=>trivial|exact fun(_:Unit) (_:Unit)=>(by decide));intro _ _;conv=>cbv
   refine qac hE hI hm (n:=1000) ?_
   conv=>cbv
   rw[hq]
   constructor
   ·exact fun _=>⟨by subst hΩ;exact rfl,trivial,trivial⟩
   constructor
   ·exact fun _ _=>⟨⟨hq8.1,(show q<((T0.length:Nat):Int)by omega)⟩,(show T0.length<1000 by omega)⟩
   intro _ _
   conv=>cbv
   constructor
   ·intro h
    have h':False:=by (subst hΩ;exact absurd h (by decide));first|done|(subst hΩ;exact Bool.noConfusion (show false=true from h))
    contradiction
   intro _
   conv=>cbv
   rw[hb']
   constructor;(first|exact fun(_:Unit)=>trivial|exact fun(_:Unit) (_:Unit)=>(by decide));intro _ _;conv=>cbv
   constructor;(first|exact fun(_:Unit)=>trivial|exact fun(_:Unit) (_:Unit)=>(by decide));intro _ _;conv=>cbv
   constructor;(first|exact fun(_:Unit)=>trivial|exact fun(_:Unit) (_:Unit)=>(by decide));intro _ _;conv=>cbv
   obtain⟨X2,hX2⟩ : ∃ X2,X2=padd (padd (padd (padd (padd X X) (padd X X)) (padd (padd X X) (padd X X))) (padd (padd (padd X X) (padd X X)) (padd (padd X X) (padd X X)))) (if b % 2=0 then T0.getD q.toNat ⟨0,1⟩ else pneg (T0.getD q.toNat ⟨0,1⟩)):=⟨_,rfl⟩
   have eX2:X2=zsm (valB 16 (zl.drop i)) P0:=by
    have hlook:T0.getD q.toNat ⟨0,1⟩=nsm (absD d).toNat P0:=by
     rw[hT.1,eq,qoO hP _ qeY (by omega),qbb]
    have hdr:valB 16 (zl.drop i)=d+16*valB 16 (zl.drop (i+1)):=by
     rw[List.drop_eq_getElem_cons (show i<zl.length by omega)]
     simp only[valB]
     rw[ed,List.getD_eq_getElem?_getD,List.getElem?_eq_getElem (show i<zl.length by omega)]
     rfl
    rw[hX2,hlook,eb,quD,hX,show k=i+1 by omega,quA hP,<- qoM hP,hdr,Int.add_comm]
   obtain⟨j2,hj2⟩ : ∃ j2:Int,(i:Int)-1=j2:=⟨_,rfl⟩
   refine⟨(i,j2,X2),[],⟨by show i<=N;omega,hj2.symm,eX2⟩,by show i<k;omega,Nat.zero_le _,?_⟩
   conv=>cbv
   subst hΩ
   refine⟨?_,by rw[hX2];rfl,trivial⟩
   show binL .sub .i64 (i:Int) 1=j2
   rw[qO (by omega) (by omega),hj2]
  ·intro hc
   have h1 : ¬ 0<=j:=by subst hΩ;exact of_decide_eq_false hc
   have hk0:k=0:=by omega
   rw[hk0,List.drop_zero,hzv,quz]at hX
   conv=>cbv
   refine hQ () _ _ _ trivial ?_
   subst hΩ
   refine⟨⟨?_,⟨rfl,rfl⟩,trivial⟩,rfl,rfl⟩
   show Pay.pt X=Pay.pt (nsm (nV bs) P0)
   rw[hX]
end Go.Sx.Tryz
end
section

end
section
set_option maxHeartbeats 4000000
namespace Go.Sx.Tryz
open Go.Proofs
set_option maxRecDepth 40000
def qxr (Ω:Om):qd:=fun args=>match args with
 | [.ab (.sc k),.ab (.pt P)]=>⟨∀ _:Unit,k<LN/\P.on,Unit,fun _=>True,fun _ =>.ab (.pt (Ω.hide _ fun _=>nsm k P))⟩
 | _=>PR.none
def qhM (Ω:Om):qd:=fun args=>match args with
 | [.ab (.pt P)]=>⟨∀ _:Unit,P.on,Bool,fun z=>z=decide ((nsm LN P).x=0),fun z=>match z with|true =>.tup [.ab (.pt P),.lit .i64 0]|false =>.tup [.ab (.pt (Ω.hide _ fun _=>pid)),.lit .i64 13]⟩
 | _=>PR.none
theorem qvW:Ctr Tryz.prog T glob 103 (qhM Om.real):=by
 refine qo T_ok qf qg (fun Ω=>[(191,qhE Ω),(56,qhL Ω),(105,qdQ Ω),(106,qeR Ω),(49,qcy Ω)]) [] (fun Ω=>[]) [] (qb qvJ (qb qvV (qb qjZ (qb qnL (qb qe1 qh))))) qi qk ql Tryz.func103 (by rfl) (by kernel_rfl) Tryz.call103 ?_ ?_
 ·intro args;unfold qhM;split
  ·exact qba ⟨fun x=>by cases x<;>repeat' (first|exact trivial|constructor),fun E x b=>by cases x<;>rfl⟩ (by repeat' (first|exact trivial|constructor)) (fun _=>⟨_,rfl⟩)
  ·exact PR.good_none
 ·intro P Ω hΩ hE hI hm args pr hs hp Q hQ
  unfold qhM at hs
  split at hs<;>subst hs<;>try (exact hp.elim)
  rename_i P0
  have hP:=hp ()
  refine⟨1000,?_⟩
  conv=>cbv
  constructor
  ·exact fun(_:Unit)=>trivial
  intro b hb
  obtain⟨bl,bc⟩:=b
  have hb:bl=qP LN 57/\bl.length<=bc:=by subst hΩ;exact hb
  have hsb:Ω.sub bl 0 (Ω.len bl)=bl:=by
   rw[hΩ];show(bl.drop 0).take bl.length=bl
   rw[List.drop_zero,List.take_length]
  conv at hsb=>lhs;cbv
  conv=>cbv
  have hbb:Byt bl:=by rw[hb.1];exact qkl _ _
  have hlb:bl.length=57:=by rw[hb.1,qbS]
  have hvb:nV bl=LN:=by rw[hb.1,qkk];exact Nat.mod_eq_of_lt (Nat.lt_trans qkr qoE)
  constructor
  ·exact fun _=>⟨(by subst hΩ;show 0+bl.length<=bl.length;omega),trivial,trivial⟩
  rw[hsb]
  constructor
  ·exact fun _ _=>⟨⟨hP,hbb⟩,by omega,by omega⟩
  intro _ _
  conv=>cbv
  constructor;(first|exact fun(_:Unit)=>trivial|exact fun(_:Unit) (_:Unit)=>(by decide));intro _ _;conv=>cbv
  constructor
  ·intro h
   have h':False:=by (subst hΩ;exact absurd h (by decide));first|done|(subst hΩ;exact Bool.noConfusion (show false=true from h))
   contradiction
  intro _
  conv=>cbv
  constructor;(first|exact fun(_:Unit)=>trivial|exact fun(_:Unit) (_:Unit)=>(by decide));intro _ _;conv=>cbv
  constructor
  ·intro hc
   have hx : ¬ (nsm LN P0).x=0:=by
    subst hΩ
    have h2:(!decide ((nsm (nV bl) P0).x=0))=true:=hc
    rw[hvb]at h2
    simpa using h2
   conv=>cbv
   constructor;(first|exact fun(_:Unit)=>trivial|exact fun(_:Unit) (_:Unit)=>(by decide));intro _ _;conv=>cbv
   refine hQ false _ _ _ (decide_eq_false hx).symm ?_
   subst hΩ
   exact⟨⟨rfl,⟨rfl,rfl⟩,trivial⟩,rfl,rfl⟩
  ·intro hc
   have hx:(nsm LN P0).x=0:=by
    subst hΩ
    have h2:(!decide ((nsm (nV bl) P0).x=0))=false:=hc
    rw[hvb]at h2
    simpa using h2
   conv=>cbv
   refine hQ true _ _ _ (decide_eq_true hx).symm ?_
   subst hΩ
   exact⟨⟨rfl,⟨rfl,rfl⟩,trivial⟩,rfl,rfl⟩
end Go.Sx.Tryz
end
