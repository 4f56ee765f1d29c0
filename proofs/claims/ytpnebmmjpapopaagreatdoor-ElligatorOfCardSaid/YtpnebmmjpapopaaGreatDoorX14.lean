/-
  Part of the proof of a statement: the means.
-/
import Derived.Test.YtpnebmmjpapopaaGreatDoorX8
import Derived.Test.YtpnebmmjpapopaaGreatDoorX13
import Derived.Test.YtpnebmmjpapopaaGreatDoorX6
set_option linter.unusedSectionVars false
set_option linter.unusedVariables false
set_option linter.unusedSimpArgs false
set_option linter.deprecated false
section
set_option maxHeartbeats 4000000
namespace Go.Sx.Tryz
open Go.Proofs
set_option maxRecDepth 40000
def qdh (Ω:Om):qd:=fun args=>match args with
 | [.roi .u64 xs,.int .i64 i]=>⟨True,Unit,fun _=>True,fun _ =>.int .u64 (Ω.hide _ fun _=>if 0<=i then xs.getD i.toNat 0 else 0)⟩
 | _=>PR.none
theorem qhv:Ctr Tryz.prog T glob 225 (qdh Om.real):=by
 refine qo T_ok qf qg (fun Ω=>[]) [] (fun Ω=>[]) [] qh qi qk ql Tryz.func225 (by rfl) (by kernel_rfl) Tryz.call225 ?_ ?_
 ·intro args;unfold qdh;split
  ·exact qt (by repeat' constructor) (fun _ _=>rfl) (by repeat' constructor)
  ·exact PR.good_none
 ·intro P Ω hΩ hE hI hm args pr hs hp Q hQ
  unfold qdh at hs
  split at hs<;>subst hs<;>try (exact hp.elim)
  rename_i xs i
  refine⟨1000,?_⟩
  conv=>cbv
  constructor
  ·intro hc
   have h0:i<0:=by subst hΩ;exact of_decide_eq_true hc
   conv=>cbv
   refine hQ () _ _ _ trivial ?_
   subst hΩ
   refine⟨rfl,?_⟩
   show 0=if 0<=i then xs.getD i.toNat 0 else 0
   rw[if_neg (by omega)]
  ·intro hc
   have h0 : ¬ i<0:=by subst hΩ;exact of_decide_eq_false hc
   conv=>cbv
   constructor
   ·intro hc2
    have h1:i >= (xs.length:Int):=by subst hΩ;exact of_decide_eq_true hc2
    conv=>cbv
    refine hQ () _ _ _ trivial ?_
    subst hΩ
    refine⟨rfl,?_⟩
    show 0=if 0<=i then xs.getD i.toNat 0 else 0
    rw[if_pos (by omega),List.getD_eq_getElem?_getD,List.getElem?_eq_none (by omega)]
    rfl
   ·intro hc2
    have h1 : ¬ i >= (xs.length:Int):=by subst hΩ;exact of_decide_eq_false hc2
    conv=>cbv
    constructor
    ·exact fun _=>⟨by omega,by subst hΩ;show i<((xs.length:Nat):Int);omega⟩
    constructor
    ·exact fun _=>by subst hΩ;show i.toNat+1<=xs.length;omega
    refine hQ () _ _ _ trivial ?_
    subst hΩ
    refine⟨rfl,?_⟩
    show xs.getD i.toNat 0=if 0<=i then xs.getD i.toNat 0 else 0
    rw[if_pos (by omega)]
end Go.Sx.Tryz
end
section
set_option maxHeartbeats 4000000
namespace Go.Sx.Tryz
open Go.Proofs
set_option maxRecDepth 40000
def qhw (Ω:Om):qd:=fun args=>match args with
 | [.int .u64 x]=>⟨∀ _:Unit,0<=x/\x<18446744073709551616,Nat,fun z=>IsLen x.toNat z/\z<=64,fun z =>.int .i64 z⟩
 | _=>PR.none
theorem qvx:Ctr Tryz.prog T glob 249 (qhw Om.real):=by
 refine qo T_ok qf qg (fun Ω=>[]) [] (fun Ω=>[]) [] qh qi qk ql Tryz.func249 (by rfl) (by kernel_rfl) Tryz.call249 ?_ ?_
 ·intro args;unfold qhw;split
  ·exact qba (by refine⟨?_,?_⟩<;>intros<;>trivial) (by repeat' constructor) (fun h=>qkn (V:=_) (by have:=h ();exact(Int.toNat_lt this.1).2 this.2))
  ·exact PR.good_none
 ·intro P Ω hΩ hE hI hm args pr hs hp Q hQ
  unfold qhw at hs
  split at hs<;>subst hs<;>try (exact hp.elim)
  rename_i x
  obtain⟨h0,h1⟩:=hp ()
  obtain⟨V,eV⟩ : ∃ V:Nat,x=(V:Int):=⟨x.toNat,by omega⟩
  have eV2:x.toNat=V:=by omega
  refine⟨1000,?_⟩
  conv=>cbv
  constructor
  ·intro hc0
   have hg0:x >= 4294967296:=by subst hΩ;exact of_decide_eq_true hc0
   obtain⟨y1,hy1⟩ : ∃ y,Ω.bin .shr .u64 x 32=y:=⟨_,rfl⟩
   have ey1:y1=((V / 4294967296:Nat):Int):=by
    rw[<- hy1]
    subst hΩ
    show binL .shr .u64 x ((32:Nat):Int)=_
    rw[ushr _ _ (by decide),show((2^32:Nat):Int)=4294967296 from rfl]
    omega
   conv at hy1=>lhs;cbv
   conv=>cbv
   rw[hy1]
   conv=>cbv
   constructor
   ·intro hc1
    have hg1:y1 >= 65536:=by subst hΩ;exact of_decide_eq_true hc1
    obtain⟨y2,hy2⟩ : ∃ y,Ω.bin .shr .u64 y1 16=y:=⟨_,rfl⟩
    have ey2:y2=((V / 281474976710656:Nat):Int):=by
     rw[<- hy2]
     subst hΩ
     show binL .shr .u64 y1 ((16:Nat):Int)=_
     rw[ushr _ _ (by decide),show((2^16:Nat):Int)=65536 from rfl]
     omega
    conv at hy2=>lhs;cbv
    conv=>cbv
    rw[hy2]
    conv=>cbv
    constructor
    ·intro hc2
     have hg2:y2 >= 256:=by subst hΩ;exact of_decide_eq_true hc2
     obtain⟨y3,hy3⟩ : ∃ y,Ω.bin .shr .u64 y2 8=y:=⟨_,rfl⟩
     have ey3:y3=((V / 72057594037927936:Nat):Int):=by
      rw[<- hy3]
      subst hΩ
      show binL .shr .u64 y2 ((8:Nat):Int)=_
      rw[ushr _ _ (by decide),show((2^8:Nat):Int)=256 from rfl]
      omega
     conv at hy3=>lhs;cbv
     conv=>cbv
     rw[hy3]
     conv=>cbv
     constructor
     ·intro _
      show 0<=Ω.cv .u8 y3/\Ω.cv .u8 y3<256
      subst hΩ
      show 0<=IntKind.u8.wrap y3/\IntKind.u8.wrap y3<256
      rw[IntKind.wrap_u8];omega
     refine hQ (len8 (V / 72057594037927936)+56) _ _ _ ⟨(by rw[eV2];have h:=qcB (b:=V / 72057594037927936) (by omega);have:=h;exact IsLen.up (V:=V) (s:=56) (by simpa using this) (by omega)),?_⟩ ?_
     ·have:=qaJ (V / 72057594037927936)
      show len8 (V / 72057594037927936)+56<=64
      omega
     subst hΩ
     refine⟨rfl,?_⟩
     have hb:(V / 72057594037927936)<256:=by omega
     have e8:(IntKind.u8.wrap y3).toNat=V / 72057594037927936:=by rw[IntKind.wrap_u8];omega
     have hl:=qaJ (V / 72057594037927936)
     show binL .add .i64 56 (IntKind.i64.wrap (tab8.getD (IntKind.u8.wrap y3).toNat 0))=((len8 (V / 72057594037927936)+56:Nat):Int)
     rw[e8,qcC hb,qad (by omega) (by omega),qw (by omega) (by omega)]
     omega
    ·intro hc2
     have hg2 : ¬ y2 >= 256:=by subst hΩ;exact of_decide_eq_false hc2
     conv=>cbv
     constructor
     ·intro _
      show 0<=Ω.cv .u8 y2/\Ω.cv .u8 y2<256
      subst hΩ
      show 0<=IntKind.u8.wrap y2/\IntKind.u8.wrap y2<256
      rw[IntKind.wrap_u8];omega
     refine hQ (len8 (V / 281474976710656)+48) _ _ _ ⟨(by rw[eV2];have h:=qcB (b:=V / 281474976710656) (by omega);have:=h;exact IsLen.up (V:=V) (s:=48) (by simpa using this) (by omega)),?_⟩ ?_
     ·have:=qaJ (V / 281474976710656)
      show len8 (V / 281474976710656)+48<=64
      omega
     subst hΩ
     refine⟨rfl,?_⟩
     have hb:(V / 281474976710656)<256:=by omega
     have e8:(IntKind.u8.wrap y2).toNat=V / 281474976710656:=by rw[IntKind.wrap_u8];omega
     have hl:=qaJ (V / 281474976710656)
     show binL .add .i64 48 (IntKind.i64.wrap (tab8.getD (IntKind.u8.wrap y2).toNat 0))=((len8 (V / 281474976710656)+48:Nat):Int)
     rw[e8,qcC hb,qad (by omega) (by omega),qw (by omega) (by omega)]
     omega
   ·intro hc1
    have hg1 : ¬ y1 >= 65536:=by subst hΩ;exact of_decide_eq_false hc1
    conv=>cbv
    constructor
    ·intro hc2
     have hg2:y1 >= 256:=by subst hΩ;exact of_decide_eq_true hc2
     obtain⟨y3,hy3⟩ : ∃ y,Ω.bin .shr .u64 y1 8=y:=⟨_,rfl⟩
     have ey3:y3=((V / 1099511627776:Nat):Int):=by
      rw[<- hy3]
      subst hΩ
      show binL .shr .u64 y1 ((8:Nat):Int)=_
      rw[ushr _ _ (by decide),show((2^8:Nat):Int)=256 from rfl]
      omega
     conv at hy3=>lhs;cbv
     conv=>cbv
     rw[hy3]
     conv=>cbv
     constructor
     ·intro _
      show 0<=Ω.cv .u8 y3/\Ω.cv .u8 y3<256
      subst hΩ
      show 0<=IntKind.u8.wrap y3/\IntKind.u8.wrap y3<256
      rw[IntKind.wrap_u8];omega
     refine hQ (len8 (V / 1099511627776)+40) _ _ _ ⟨(by rw[eV2];have h:=qcB (b:=V / 1099511627776) (by omega);have:=h;exact IsLen.up (V:=V) (s:=40) (by simpa using this) (by omega)),?_⟩ ?_
     ·have:=qaJ (V / 1099511627776)
      show len8 (V / 1099511627776)+40<=64
      omega
     subst hΩ
     refine⟨rfl,?_⟩
     have hb:(V / 1099511627776)<256:=by omega
     have e8:(IntKind.u8.wrap y3).toNat=V / 1099511627776:=by rw[IntKind.wrap_u8];omega
     have hl:=qaJ (V / 1099511627776)
     show binL .add .i64 40 (IntKind.i64.wrap (tab8.getD (IntKind.u8.wrap y3).toNat 0))=((len8 (V / 1099511627776)+40:Nat):Int)
     rw[e8,qcC hb,qad (by omega) (by omega),qw (by omega) (by omega)]
     omega
    ·intro hc2
     have hg2 : ¬ y1 >= 256:=by subst hΩ;exact of_decide_eq_false hc2
     conv=>cbv
     constructor
     ·intro _
      show 0<=Ω.cv .u8 y1/\Ω.cv .u8 y1<256
      subst hΩ
      show 0<=IntKind.u8.wrap y1/\IntKind.u8.wrap y1<256
      rw[IntKind.wrap_u8];omega
     refine hQ (len8 (V / 4294967296)+32) _ _ _ ⟨(by rw[eV2];have h:=qcB (b:=V / 4294967296) (by omega);have:=h;exact IsLen.up (V:=V) (s:=32) (by simpa using this) (by omega)),?_⟩ ?_
     ·have:=qaJ (V / 4294967296)
      show len8 (V / 4294967296)+32<=64
      omega
     subst hΩ
     refine⟨rfl,?_⟩
     have hb:(V / 4294967296)<256:=by omega
     have e8:(IntKind.u8.wrap y1).toNat=V / 4294967296:=by rw[IntKind.wrap_u8];omega
     have hl:=qaJ (V / 4294967296)
     show binL .add .i64 32 (IntKind.i64.wrap (tab8.getD (IntKind.u8.wrap y1).toNat 0))=((len8 (V / 4294967296)+32:Nat):Int)
     rw[e8,qcC hb,qad (by omega) (by omega),qw (by omega) (by omega)]
     omega
  ·intro hc0
   have hg0 : ¬ x >= 4294967296:=by subst hΩ;exact of_decide_eq_false hc0
   conv=>cbv
   constructor
   ·intro hc1
    have hg1:x >= 65536:=by subst hΩ;exact of_decide_eq_true hc1
    obtain⟨y2,hy2⟩ : ∃ y,Ω.bin .shr .u64 x 16=y:=⟨_,rfl⟩
    have ey2:y2=((V / 65536:Nat):Int):=by
     rw[<- hy2]
     subst hΩ
     show binL .shr .u64 x ((16:Nat):Int)=_
     rw[ushr _ _ (by decide),show((2^16:Nat):Int)=65536 from rfl]
     omega
    conv at hy2=>lhs;cbv
    conv=>cbv
    rw[hy2]
    conv=>cbv
    constructor
    ·intro hc2
     have hg2:y2 >= 256:=by subst hΩ;exact of_decide_eq_true hc2
     obtain⟨y3,hy3⟩ : ∃ y,Ω.bin .shr .u64 y2 8=y:=⟨_,rfl⟩
     have ey3:y3=((V / 16777216:Nat):Int):=by
      rw[<- hy3]
      subst hΩ
      show binL .shr .u64 y2 ((8:Nat):Int)=_
      rw[ushr _ _ (by decide),show((2^8:Nat):Int)=256 from rfl]
      omega
     conv at hy3=>lhs;cbv
     conv=>cbv
     rw[hy3]
     conv=>cbv
     constructor
     ·intro _
      show 0<=Ω.cv .u8 y3/\Ω.cv .u8 y3<256
      subst hΩ
      show 0<=IntKind.u8.wrap y3/\IntKind.u8.wrap y3<256
      rw[IntKind.wrap_u8];omega
     refine hQ (len8 (V / 16777216)+24) _ _ _ ⟨(by rw[eV2];have h:=qcB (b:=V / 16777216) (by omega);have:=h;exact IsLen.up (V:=V) (s:=24) (by simpa using this) (by omega)),?_⟩ ?_
     ·have:=qaJ (V / 16777216)
      show len8 (V / 16777216)+24<=64
      omega
     subst hΩ
     refine⟨rfl,?_⟩
     have hb:(V / 16777216)<256:=by omega
     have e8:(IntKind.u8.wrap y3).toNat=V / 16777216:=by rw[IntKind.wrap_u8];omega
     have hl:=qaJ (V / 16777216)
     show binL .add .i64 24 (IntKind.i64.wrap (tab8.getD (IntKind.u8.wrap y3).toNat 0))=((len8 (V / 16777216)+24:Nat):Int)
     rw[e8,qcC hb,qad (by omega) (by omega),qw (by omega) (by omega)]
     omega
    ·intro hc2
     have hg2 : ¬ y2 >= 256:=by subst hΩ;exact of_decide_eq_false hc2
     conv=>cbv
     constructor
     ·intro _
      show 0<=Ω.cv .u8 y2/\Ω.cv .u8 y2<256
      subst hΩ
      show 0<=IntKind.u8.wrap y2/\IntKind.u8.wrap y2<256
      rw[IntKind.wrap_u8];omega
     refine hQ (len8 (V / 65536)+16) _ _ _ ⟨(by rw[eV2];have h:=qcB (b:=V / 65536) (by omega);have:=h;exact IsLen.up (V:=V) (s:=16) (by simpa using this) (by omega)),?_⟩ ?_
     ·have:=qaJ (V / 65536)
      show len8 (V / 65536)+16<=64
      omega
     subst hΩ
     refine⟨rfl,?_⟩
     have hb:(V / 65536)<256:=by omega
     have e8:(IntKind.u8.wrap y2).toNat=V / 65536:=by rw[IntKind.wrap_u8];omega
     have hl:=qaJ (V / 65536)
     show binL .add .i64 16 (IntKind.i64.wrap (tab8.getD (IntKind.u8.wrap y2).toNat 0))=((len8 (V / 65536)+16:Nat):Int)
     rw[e8,qcC hb,qad (by omega) (by omega),qw (by omega) (by omega)]
     omega
   ·intro hc1
    have hg1 : ¬ x >= 65536:=by subst hΩ;exact of_decide_eq_false hc1
    conv=>cbv
    constructor
    ·intro hc2
     have hg2:x >= 256:=by subst hΩ;exact of_decide_eq_true hc2
     obtain⟨y3,hy3⟩ : ∃ y,Ω.bin .shr .u64 x 8=y:=⟨_,rfl⟩
     have ey3:y3=((V / 256:Nat):Int):=by
      rw[<- hy3]
      subst hΩ
      show binL .shr .u64 x ((8:Nat):Int)=_
      rw[ushr _ _ (by decide),show((2^8:Nat):Int)=256 from rfl]
      omega
     conv at hy3=>lhs;cbv
     conv=>cbv
     rw[hy3]
     conv=>cbv
     constructor
     ·intro _
      show 0<=Ω.cv .u8 y3/\Ω.cv .u8 y3<256
      subst hΩ
      show 0<=IntKind.u8.wrap y3/\IntKind.u8.wrap y3<256
      rw[IntKind.wrap_u8];omega
     refine hQ (len8 (V / 256)+8) _ _ _ ⟨(by rw[eV2];have h:=qcB (b:=V / 256) (by omega);have:=h;exact IsLen.up (V:=V) (s:=8) (by simpa using this) (by omega)),?_⟩ ?_
     ·have:=qaJ (V / 256)
      show len8 (V / 256)+8<=64
      omega
     subst hΩ
     refine⟨rfl,?_⟩
     have hb:(V / 256)<256:=by omega
     have e8:(IntKind.u8.wrap y3).toNat=V / 256:=by rw[IntKind.wrap_u8];omega
     have hl:=qaJ (V / 256)
     show binL .add .i64 8 (IntKind.i64.wrap (tab8.getD (IntKind.u8.wrap y3).toNat 0))=((len8 (V / 256)+8:Nat):Int)
     rw[e8,qcC hb,qad (by omega) (by omega),qw (by omega) (by omega)]
     omega
    ·intro hc2
     have hg2 : ¬ x >= 256:=by subst hΩ;exact of_decide_eq_false hc2
     conv=>cbv
     constructor
     ·intro _
      show 0<=Ω.cv .u8 x/\Ω.cv .u8 x<256
      subst hΩ
      show 0<=IntKind.u8.wrap x/\IntKind.u8.wrap x<256
      rw[IntKind.wrap_u8];omega
     refine hQ (len8 (V)+0) _ _ _ ⟨(by rw[eV2];have h:=qcB (b:=V) (by omega);have:=h;exact this),?_⟩ ?_
     ·have:=qaJ (V)
      show len8 (V)+0<=64
      omega
     subst hΩ
     refine⟨rfl,?_⟩
     have hb:(V)<256:=by omega
     have e8:(IntKind.u8.wrap x).toNat=V:=by rw[IntKind.wrap_u8];omega
     have hl:=qaJ (V)
     show binL .add .i64 0 (IntKind.i64.wrap (tab8.getD (IntKind.u8.wrap x).toNat 0))=((len8 (V)+0:Nat):Int)
     rw[e8,qcC hb,qad (by omega) (by omega),qw (by omega) (by omega)]
     omega
end Go.Sx.Tryz
end
section
set_option maxHeartbeats 4000000
namespace Go.Sx.Tryz
open Go.Proofs
set_option maxRecDepth 40000
def qhx (Ω:Om):qd:=fun args=>match args with
 | [.roi .u64 xs]=>⟨∀ _:Unit,W64 xs/\xs.length<1000000,Nat,fun z=>IsLen (wV xs) z/\z<=64000000,fun z =>.int .i64 z⟩
 | _=>PR.none
noncomputable def qvy:List (FuncId × Func):=[(219,Tryz.f219)]
theorem qvz:Ctr Tryz.prog T glob 205 (qhx Om.real):=by
 refine qo T_ok qf qg (fun Ω=>[(249,qhw Ω)]) qvy (fun Ω=>[]) [] (qb qvx qh) (qL Tryz.call219 Tryz.func219 (by kernel_rfl) qi) qk ql Tryz.func205 (by rfl) (by kernel_rfl) Tryz.call205 ?_ ?_
 ·intro args;unfold qhx;split
  ·exact qba (by refine⟨?_,?_⟩<;>intros<;>trivial) (by repeat' constructor) (fun h=>qt8 (h ()).1 (h ()).2)
  ·exact PR.good_none
 ·intro P Ω hΩ hE hI hm args pr hs hp Q hQ
  unfold qhx at hs
  split at hs<;>subst hs<;>try (exact hp.elim)
  rename_i xs
  obtain⟨hx,lx⟩:=hp ()
  refine⟨1000,?_⟩
  conv=>cbv
  refine qgf hE hI hm (fun z:Nat × List Int=>(mkT 21 [(0,.roi .u64 z.2),(2,.val (.slice none 0 0))],[])) (fun z=>z.1<=xs.length/\z.2=xs.take z.1 /\ ∀ j,z.1<=j->xs.getD j 0=0) (fun z=>z.1) 0 ⟨(xs.length,xs),[],⟨Nat.le_refl _,(List.take_length).symm,fun j hj=>by rw[List.getD_eq_getElem?_getD,List.getElem?_eq_none hj];rfl⟩,Nat.zero_le _,?_⟩ fun z hn=>⟨1000,?_⟩
  ·conv=>cbv
   trivial
  obtain⟨n,ys⟩:=z
  obtain⟨hni,hys,hz⟩:n<=xs.length/\ys=xs.take n /\ ∀ j,n<=j->xs.getD j 0=0:=hn
  have hyl:ys.length=n:=by rw[hys,List.length_take];omega
  have es:Ω.bin .sub .i64 (Ω.ofN (Ω.len ys)) 1=(n:Int)-1:=by
   subst hΩ
   show binL .sub .i64 ((ys.length:Nat):Int) 1=_
   rw[hyl,qO (by omega) (by omega)]
  obtain⟨q,hq⟩ : ∃ q,Ω.bin .sub .i64 (Ω.ofN (Ω.len ys)) 1=q:=⟨_,rfl⟩
  have eq:q=(n:Int)-1:=hq.symm.trans es
  conv at hq=>lhs;cbv
  conv=>cbv
  rw[hq]
  constructor
  ·intro hc
   have h1:0<=q:=by subst hΩ;exact of_decide_eq_true hc
   conv=>cbv
   constructor
   ·intro _
    subst hΩ
    show 0<=q/\q<((ys.length:Nat):Int)
    omega
   constructor
   ·intro _
    subst hΩ
    show q.toNat+1<=ys.length
    omega
   constructor
   ·intro hc2
    have hz0:xs.getD (n-1) 0=0:=by
     subst hΩ
     have h2:ys.getD q.toNat 0=0:=of_decide_eq_true hc2
     rw[hys,show q.toNat=n-1 by omega,List.getD_eq_getElem?_getD,List.getElem?_take_of_lt (by omega),<- List.getD_eq_getElem?_getD]at h2
     exact h2
    obtain⟨y2,hy2⟩ : ∃ y2,Ω.sub ys 0 (Ω.toN q)=y2:=⟨_,rfl⟩
    have ey2:y2=xs.take (n-1):=by
     rw[<- hy2]
     subst hΩ
     show(ys.drop 0).take q.toNat=_
     rw[List.drop_zero,hys,List.take_take]
     congr 1;omega
    conv at hy2=>lhs;cbv
    conv=>cbv
    constructor
    ·intro _
     rw[hΩ]
     exact⟨trivial,h1,h1,Nat.zero_le _,Nat.le_refl _,(show q.toNat<=ys.length by omega)⟩
    rw[hy2]
    refine⟨(n-1,y2),[],⟨by show n-1<=xs.length;omega,ey2,fun j hj => ?_⟩,by show n-1<n;omega,Nat.zero_le _,?_⟩
    ·by_cases hjm:j=n-1
     ·rw[hjm];exact hz0
     ·exact hz j (by have:n-1<=j:=hj;omega)
    ·conv=>cbv
     trivial
   ·intro hc2
    have hz0:xs.getD (n-1) 0 ≠ 0:=by
     subst hΩ
     have h2:ys.getD q.toNat 0 ≠ 0:=of_decide_eq_false hc2
     rw[hys,show q.toNat=n-1 by omega,List.getD_eq_getElem?_getD,List.getElem?_take_of_lt (by omega),<- List.getD_eq_getElem?_getD]at h2
     exact h2
    conv=>cbv
    constructor
    ·intro h
     have h':False:=by (subst hΩ;have h2:=of_decide_eq_true h;change ((ys.length:Nat):Int)=0 at h2;omega);first|done|(subst hΩ;exact Bool.noConfusion (show false=true from h))
     contradiction
    intro _
    conv=>cbv
    rw[hq]
    constructor
    ·intro _
     subst hΩ
     show 0<=q/\q<((ys.length:Nat):Int)
     omega
    constructor
    ·intro _
     subst hΩ
     show q.toNat+1<=ys.length
     omega
    have hyw:ys.getD q.toNat 0=xs.getD (n-1) 0:=by
     rw[hys,show q.toNat=n-1 by omega,List.getD_eq_getElem?_getD,List.getElem?_take_of_lt (by omega),<- List.getD_eq_getElem?_getD]
    have hb:=qdf hx (n-1)
    constructor
    ·intro _ _
     subst hΩ
     show 0<=ys.getD q.toNat 0/\ys.getD q.toNat 0<18446744073709551616
     rw[hyw]
     exact hb
    intro (z:Nat) hz2
    have hz3:IsLen (xs.getD (n-1) 0).toNat z/\z<=64:=by
     subst hΩ
     have h3:IsLen (ys.getD q.toNat 0).toNat z/\z<=64:=hz2
     rw[hyw]at h3
     exact h3
    conv=>cbv
    refine hQ (z+64*(n-1)) _ _ _ ⟨qtW hx (fun j hj=>hz j (by omega)) hz0 hz3.1,by omega⟩ ?_
    subst hΩ
    refine⟨rfl,?_⟩
    show binL .add .i64 (binL .mul .i64 64 q) (z:Int)=((z+64*(n-1):Nat):Int)
    rw[qaU (by omega) (by omega),qw (by omega) (by omega)]
    omega
  ·intro hc
   have h1 : ¬ 0<=q:=by subst hΩ;exact of_decide_eq_false hc
   have h0:n=0:=by omega
   conv=>cbv
   constructor
   rotate_left
   ·intro h
    have h':False:=by (subst hΩ;have h2:=of_decide_eq_false h;change ¬ ((ys.length:Nat):Int)=0 at h2;omega);first|done|(subst hΩ;exact Bool.noConfusion (show true=false from h))
    contradiction
   intro _
   conv=>cbv
   refine hQ 0 _ _ _ ⟨?_,Nat.zero_le _⟩ ?_
   ·have:=qhf fun j=>hz j (by omega)
    rw[this];exact qt9
   subst hΩ
   exact⟨rfl,rfl⟩
end Go.Sx.Tryz
end
section
set_option maxHeartbeats 4000000
namespace Go.Sx.Tryz
open Go.Proofs
set_option maxRecDepth 40000
theorem qo5 {a:Int} (h:cmpL .neq a a=true):False:=by
 have h2:(a != a)=true:=h
 simp at h2
def qhy (Ω:Om):qd:=fun args=>match args with
 | [.roi .u64 xs,.roi .u64 ys]=>⟨∀ _:Unit,(W64 xs/\xs.length<1000000)/\W64 ys/\ys.length<1000000,Unit,fun _=>True,fun _ =>.int .i64 (Ω.hide _ fun _=>cmpN (wV xs) (wV ys))⟩
 | _=>PR.none
noncomputable def qvA:List (FuncId × Func):=[(250,Tryz.f250),(260,Tryz.f260)]
theorem qvB:Ctr Tryz.prog T glob 206 (qhy Om.real):=by
 refine qo T_ok qf qg (fun Ω=>[(225,qdh Ω)]) qvA (fun Ω=>[]) [] (qb qhv qh) (qL Tryz.call250 Tryz.func250 (by kernel_rfl) (qL Tryz.call260 Tryz.func260 (by kernel_rfl) qi)) qk ql Tryz.func206 (by rfl) (by kernel_rfl) Tryz.call206 ?_ ?_
 ·intro args;unfold qhy;split
  ·exact qt (by repeat' constructor) (fun _ _=>rfl) (by repeat' constructor)
  ·exact PR.good_none
 ·intro P Ω hΩ hE hI hm args pr hs hp Q hQ
  unfold qhy at hs
  split at hs<;>subst hs<;>try (exact hp.elim)
  rename_i xs ys
  obtain⟨⟨hx,lx⟩,hy,ly⟩:=hp ()
  refine⟨1000,?_⟩
  obtain⟨i0,hi0⟩ : ∃ i0:Int,Ω.bin .sub .i64 (Ω.imax (Ω.ofN (Ω.len xs)) (Ω.ofN (Ω.len ys))) 1=i0:=⟨_,rfl⟩
  obtain⟨M,hM⟩ : ∃ M:Nat,M=max xs.length ys.length:=⟨_,rfl⟩
  have ei0:i0=(M:Int)-1:=by
   rw[<- hi0]
   subst hΩ
   show binL .sub .i64 (max (xs.length:Int) (ys.length:Int)) 1=_
   rw[qO (by omega) (by omega)];omega
  conv at hi0=>lhs;cbv
  conv=>cbv
  refine qr hE hI hm (fun z:Nat × Int=>(mkT 27 [(0,.roi .u64 xs),(1,.roi .u64 ys),(5,.int .i64 z.2)],[])) (fun z=>z.1<=M/\z.2=(z.1:Int)-1/\wV xs / 18446744073709551616^z.1=wV ys / 18446744073709551616^z.1) (fun z=>z.1) 0 ⟨(M,i0),[],⟨Nat.le_refl _,ei0,by show wV xs / 18446744073709551616^M=wV ys / 18446744073709551616^M;rw[qox hx (by omega),qox hy (by omega)]⟩,Nat.zero_le _,?_⟩ fun z hz=>⟨1000,?_⟩
  ·conv=>cbv
   exact hi0
  obtain⟨m,i⟩:=z
  obtain⟨hm',hi,hq⟩:m<=M/\i=(m:Int)-1/\wV xs / 18446744073709551616^m=wV ys / 18446744073709551616^m:=hz
  conv=>cbv
  constructor
  ·intro hc
   have h1:0<=i:=by subst hΩ;exact of_decide_eq_true hc
   obtain⟨k,rfl⟩ : ∃ k:Nat,i=k:=⟨i.toNat,by omega⟩
   have hmk:m=k+1:=by omega
   subst hmk
   obtain⟨cl,ce⟩:=qow hq
   obtain⟨cl2,_⟩:=qow hq.symm
   conv=>cbv
   constructor;(first|exact fun(_:Unit)=>trivial|exact fun(_:Unit) (_:Unit)=>(by decide));intro _ _;conv=>cbv
   constructor;(first|exact fun(_:Unit)=>trivial|exact fun(_:Unit) (_:Unit)=>(by decide));intro _ _;conv=>cbv
   have hxa:=w_wd hx k
   have hyb:=w_wd hy k
   have eA : ∀ l:List Int,(if 0<=Int.ofNat k then l.getD (Int.ofNat k).toNat 0 else 0)=l.getD k 0:=fun l=>if_pos (Int.natCast_nonneg k)
   constructor
   ·intro h
    have h':False:=by (subst hΩ;generalize (if 0<=Int.ofNat k then xs.getD (Int.ofNat k).toNat 0 else 0)=a at h;exact qo5 h);first|done|(subst hΩ;exact Bool.noConfusion (show false=true from h))
    contradiction
   intro _
   conv=>cbv
   constructor
   ·intro h
    have h':False:=by (subst hΩ;generalize (if 0<=Int.ofNat k then ys.getD (Int.ofNat k).toNat 0 else 0)=a at h;exact qo5 h);first|done|(subst hΩ;exact Bool.noConfusion (show false=true from h))
    contradiction
   intro _
   conv=>cbv
   constructor
   ·intro h3
    have hlt:wd (wV xs) k<wd (wV ys) k:=by
     subst hΩ
     have h4:=of_decide_eq_true h3
     change (if 0<=Int.ofNat k then xs.getD (Int.ofNat k).toNat 0 else 0)<(if 0<=Int.ofNat k then ys.getD (Int.ofNat k).toNat 0 else 0)at h4
     rw[eA,eA,hxa,hyb]at h4
     exact Int.ofNat_lt.1 h4
    conv=>cbv
    refine hQ () _ _ _ trivial ?_
    subst hΩ
    refine⟨rfl,?_⟩
    show(-1:Int)=cmpN (wV xs) (wV ys)
    unfold cmpN
    rw[if_pos (cl hlt)]
   ·intro h3
    have hnl : ¬ wd (wV xs) k<wd (wV ys) k:=by
     subst hΩ
     have h4:=of_decide_eq_false h3
     change ¬ (if 0<=Int.ofNat k then xs.getD (Int.ofNat k).toNat 0 else 0)<(if 0<=Int.ofNat k then ys.getD (Int.ofNat k).toNat 0 else 0)at h4
     rw[eA,eA,hxa,hyb]at h4
     exact fun h=>h4 (Int.ofNat_lt.2 h)
    conv=>cbv
    constructor
    ·intro h5
     have hgt:wd (wV ys) k<wd (wV xs) k:=by
      subst hΩ
      have h4:=of_decide_eq_true h5
      change (if 0<=Int.ofNat k then xs.getD (Int.ofNat k).toNat 0 else 0) > (if 0<=Int.ofNat k then ys.getD (Int.ofNat k).toNat 0 else 0)at h4
      rw[eA,eA,hxa,hyb]at h4
      exact Int.ofNat_lt.1 h4
     conv=>cbv
     refine hQ () _ _ _ trivial ?_
     subst hΩ
     refine⟨rfl,?_⟩
     show(1:Int)=cmpN (wV xs) (wV ys)
     unfold cmpN
     have:=cl2 hgt
     rw[if_neg (by omega),if_pos this]
    ·intro h5
     have hng : ¬ wd (wV ys) k<wd (wV xs) k:=by
      subst hΩ
      have h4:=of_decide_eq_false h5
      change ¬ (if 0<=Int.ofNat k then xs.getD (Int.ofNat k).toNat 0 else 0) > (if 0<=Int.ofNat k then ys.getD (Int.ofNat k).toNat 0 else 0)at h4
      rw[eA,eA,hxa,hyb]at h4
      exact fun h=>h4 (Int.ofNat_lt.2 h)
     conv=>cbv
     have hq2:=ce (by omega)
     obtain⟨i2,hi2⟩ : ∃ i2:Int,Ω.bin .sub .i64 (Int.ofNat k) 1=i2:=⟨_,rfl⟩
     have ei2:i2=(k:Int)-1:=by
      rw[<- hi2]
      subst hΩ
      show binL .sub .i64 (k:Int) 1=_
      rw[qO (by omega) (by omega)]
     conv at hi2=>lhs;cbv
     conv=>cbv
     refine⟨(k,i2),[],⟨by show k<=M;omega,ei2,hq2⟩,by show k<k+1;omega,Nat.zero_le _,?_⟩
     conv=>cbv
     exact hi2
  ·intro hc
   have h1 : ¬ 0<=i:=by subst hΩ;exact of_decide_eq_false hc
   have h0:m=0:=by omega
   rw[h0,Nat.pow_zero,Nat.div_one,Nat.div_one]at hq
   conv=>cbv
   refine hQ () _ _ _ trivial ?_
   subst hΩ
   refine⟨rfl,?_⟩
   show(0:Int)=cmpN (wV xs) (wV ys)
   unfold cmpN
   rw[hq,if_neg (Nat.lt_irrefl _),if_neg (Nat.lt_irrefl _)]
end Go.Sx.Tryz
end
section
set_option maxHeartbeats 4000000
namespace Go.Sx.Tryz
open Go.Proofs
set_option maxRecDepth 40000
theorem qdi {α:Type} {k:IntKind} {args:List SVal} {p:Prop} {post:α->Prop} {f:α->List Int} {g:α->Nat} {e:α->Int} (hc:IdsLtL noId args) (h:p -> ∃ x,post x):PR.Good ⟨p,α,post,fun z =>.tup [.fr k (f z) (g z),.int .i64 (e z)]⟩ args :=
 ⟨fun _=>⟨trivial,trivial,trivial⟩,(fun E x b q hq=>by simp[place,place.placeL]at hq;subst hq;exact⟨Nat.le_refl _,by simp⟩),fun _=>hc,h⟩
def qhz (Ω:Om):qd:=fun args=>match args with
 | [.roi .u64 xs,.roi .u64 ys]=>⟨∀ _:Unit,(W64 xs/\xs.length<1000000)/\(W64 ys/\ys.length<1000000)/\wV ys<=wV xs,List Int × Nat,fun z=>z.1=natW (wV xs-wV ys)/\z.1.length<=z.2,fun z =>.tup [.fr .u64 z.1 z.2,.int .i64 0]⟩
 | _=>PR.none
noncomputable def qvC:List (FuncId × Func):=[(219,Tryz.f219)]
theorem qvD:Ctr Tryz.prog T glob 201 (qhz Om.real):=by
 refine qo T_ok qf qg (fun Ω=>[(206,qhy Ω),(225,qdh Ω)]) qvC (fun Ω=>[]) [(245,qjQ)] (qb qvB (qb qhv qh)) (qL Tryz.call219 Tryz.func219 (by kernel_rfl) qi) qk (qgj qnA ql) Tryz.func201 (by rfl) (by kernel_rfl) Tryz.call201 ?_ ?_
 ·intro args;unfold qhz;split
  ·exact qdi ⟨trivial,trivial,trivial⟩ fun _=>qa5 _
  ·exact PR.good_none
 ·intro P Ω hΩ hE hI hm args pr hs hp Q hQ
  unfold qhz at hs
  split at hs<;>subst hs<;>try (exact hp.elim)
  rename_i xs ys
  obtain⟨⟨hx,lx⟩,⟨hy,ly⟩,hle⟩:=hp ()
  refine⟨1000,?_⟩
  obtain⟨M,hM⟩ : ∃ M:Int,Ω.ofN (Ω.len xs)=M:=⟨_,rfl⟩
  obtain⟨N,eN⟩ : ∃ N:Nat,N=xs.length:=⟨_,rfl⟩
  have eM:M=(N:Int):=by
   rw[<- hM,eN]
   subst hΩ
   rfl
  have hN:Ω.toN M=N:=by
   rw[eM]
   subst hΩ
   show((N:Nat):Int).toNat=N
   omega
  obtain⟨u0,hu0⟩ : ∃ u0,Ω.zer N=u0:=⟨_,rfl⟩
  have eu0:u0=List.replicate N 0:=by rw[<- hu0];subst hΩ;rfl
  obtain⟨K,hK⟩ : ∃ K:Int,Ω.ofN N=K:=⟨_,rfl⟩
  have eK:K=N:=by rw[<- hK];subst hΩ;rfl
  conv at hM=>lhs;cbv
  conv at hN=>lhs;cbv
  conv at hu0=>lhs;cbv
  conv at hK=>lhs;cbv
  conv=>cbv
  constructor
  ·exact fun(_:Unit) (_:Unit)=>⟨⟨hx,lx⟩,hy,ly⟩
  intro _ _
  conv=>cbv
  constructor
  ·intro h
   have h':False:=by (subst hΩ;have h2:=of_decide_eq_true h;change cmpN (wV xs) (wV ys)<0 at h2;unfold cmpN at h2;rw[if_neg (by omega)]at h2;split at h2<;>omega);first|done|(subst hΩ;exact Bool.noConfusion (show false=true from h))
   contradiction
  intro _
  conv=>cbv
  rw[hM]
  rw[hN]
  rw[hu0,hK]
  constructor
  ·intro _
   show 0<=M/\M=M/\8*M.toNat<=140737488355328/\M<=140737488355328
   omega
  refine qr hE hI hm (fun z:Nat × Int × List Int=>(mkT 39 [(0,.roi .u64 xs),(1,.roi .u64 ys),(4,.val (.slice none 0 0)),(5,.lit .i64 0),(6,.sl 64 1 (.l 0) (.s N) (.s N)),(7,.int .u64 z.2.1),(17,.int .i64 K),(18,.int .i64 z.1)],[(64,.seq .u64 z.2.2)])) (fun z=>z.1<=N/\Subs xs ys N z.1 z.2.1 z.2.2) (fun z=>N-z.1) 0 ⟨(0,0,u0),[],⟨Nat.zero_le _,by rw[eu0];exact Subs.start xs ys N⟩,Nat.zero_le _,?_⟩ fun z hz=>⟨1000,?_⟩
  ·conv=>cbv
   exact⟨rfl,trivial⟩
  obtain⟨i,o,u⟩:=z
  obtain⟨hi,hS⟩:i<=N/\Subs xs ys N i o u:=hz
  conv=>cbv
  constructor
  ·intro hc
   have hlt:(i:Int)<K:=by subst hΩ;exact of_decide_eq_true hc
   conv=>cbv
   constructor
   ·intro _
    subst hΩ
    exact⟨Int.natCast_nonneg i,show(i:Int)<((xs.length:Nat):Int)by omega⟩
   constructor
   ·intro _
    subst hΩ
    show i+1<=xs.length
    omega
   constructor;(first|exact fun(_:Unit)=>trivial|exact fun(_:Unit) (_:Unit)=>(by decide));intro _ _;conv=>cbv
   have bx:=qdf hx i
   have bY:=qdf hy i
   have hov:=hS.ov
   constructor
   ·intro _
    subst hΩ
    refine⟨?_,?_,by omega,by omega,?_,?_⟩
    ·exact bx.1
    ·show 0<=if 0<=Int.ofNat i then ys.getD i 0 else 0
     rw[if_pos (show 0<=Int.ofNat i from Int.natCast_nonneg i)];exact bY.1
    ·exact bx.2
    ·show(if 0<=Int.ofNat i then ys.getD i 0 else 0)<_
     rw[if_pos (show 0<=Int.ofNat i from Int.natCast_nonneg i)];exact bY.2
   constructor
   ·intro _
    exact⟨Int.natCast_nonneg i,show(i:Int)<((N:Nat):Int)by omega⟩
   constructor
   ·intro _
    subst hΩ
    show i<u.length
    rw[hS.len];omega
   have hstep:=hS.step hx hy (show i<N by omega)
   obtain⟨o',ho'⟩ : ∃ o':Int,(if xs.getD i 0<ys.getD i 0+o then 1 else 0)=o':=⟨_,rfl⟩
   obtain⟨u',hu'⟩ : ∃ u',u.set i ((xs.getD i 0-ys.getD i 0-o) % 18446744073709551616)=u':=⟨_,rfl⟩
   rw[ho',hu']at hstep
   refine⟨(i+1,o',u'),[],⟨by show i+1<=N;omega,hstep⟩,by show N-(i+1)<N-i;omega,Nat.zero_le _,?_⟩
   conv=>cbv
   have e2:(if 0<=Int.ofNat i then ys.getD i 0 else 0)=ys.getD i 0:=if_pos (Int.natCast_nonneg i)
   refine⟨?_,?_,?_⟩
   ·subst hΩ
    rw[<- ho']
    show(if xs.getD i 0<(if 0<=Int.ofNat i then ys.getD i 0 else 0)+o then 1 else 0)=_
    rw[e2]
   ·subst hΩ
    show binL .add .i64 (i:Int) 1=((i+1:Nat):Int)
    rw[qw (by omega) (by omega)]
    omega
   ·subst hΩ
    rw[<- hu']
    show u.set i ((xs.getD i 0-(if 0<=Int.ofNat i then ys.getD i 0 else 0)-o) % 18446744073709551616)=_
    rw[e2]
  ·intro hc
   have hge : ¬ (i:Int)<K:=by subst hΩ;exact of_decide_eq_false hc
   have hiN:i=N:=by omega
   subst hiN
   conv=>cbv
   refine qgf hE hI hm (fun n:Nat=>(mkT 21 [(0,.sl 64 1 (.l 0) (.s n) (.s n)),(2,.val (.slice none 0 0)),],[(64,.seq .u64 u)])) (fun n=>n<=i /\ ∀ j,n<=j->u.getD j 0=0) (fun n=>n) 0 ⟨i,[],⟨Nat.le_refl _,hS.z⟩,Nat.zero_le _,?_⟩ fun n hn=>⟨1000,?_⟩
   ·conv=>cbv
    trivial
   obtain⟨hni,hz⟩:n<=i /\ ∀ j,n<=j->u.getD j 0=0:=hn
   have hul:u.length=i:=hS.len
   have es:Ω.bin .sub .i64 (Ω.ofN n) 1=(n:Int)-1:=by
    subst hΩ
    show binL .sub .i64 (n:Int) 1=_
    rw[qO (by omega) (by omega)]
   have hfin:(n=0\/u.getD (n-1) 0 ≠ 0)->u.take n=natW (wV xs-wV ys):=fun h=>by
    subst eN
    rw[qhg hS.w (by rw[hS.len];exact hni) hz h,hS.done hx hy hle]
   conv=>cbv
   constructor
   ·intro hc
    have h1:1<=n:=by
     have hc':Ω.cmp .geq (Ω.bin .sub .i64 (Ω.ofN n) 1) 0=true:=hc
     rw[es]at hc'
     subst hΩ
     have:=of_decide_eq_true hc'
     omega
    have et:Ω.toN (Ω.bin .sub .i64 (Ω.ofN n) 1)=n-1:=by
     rw[es];subst hΩ;show((n:Int)-1).toNat=n-1;omega
    conv=>cbv
    constructor
    ·intro _
     show 0<=Ω.bin .sub .i64 (Ω.ofN n) 1/\Ω.bin .sub .i64 (Ω.ofN n) 1<((n:Nat):Int)
     rw[es];omega
    constructor
    ·intro _
     show Ω.toN (Ω.bin .sub .i64 (Ω.ofN n) 1)+1<=u.length
     rw[et,hul];omega
    constructor
    ·intro hc2
     have hz0:u.getD (n-1) 0=0:=by
      have hc':Ω.cmp .eql (Ω.at' u (Ω.toN (Ω.bin .sub .i64 (Ω.ofN n) 1))) 0=true:=hc2
      rw[et]at hc'
      subst hΩ
      exact of_decide_eq_true hc'
     obtain⟨m,hm'⟩ : ∃ m,Ω.toN (Ω.bin .sub .i64 (Ω.ofN n) 1)=m:=⟨_,rfl⟩
     have hmn:m=n-1:=hm'.symm.trans et
     obtain⟨q,hq'⟩ : ∃ q,Ω.bin .sub .i64 (Ω.ofN n) 1=q:=⟨_,rfl⟩
     have hqn:0<=q:=by rw[<- hq',es];omega
     conv at hm'=>lhs;cbv
     conv at hq'=>lhs;cbv
     conv=>cbv
     constructor
     ·intro _
      rw[hm',hq']
      exact⟨trivial,hqn,hqn,Nat.zero_le _,Nat.le_refl _,(show m<=n by omega)⟩
     rw[hm',hq']
     refine⟨m,[],⟨by omega,fun j hj => ?_⟩,by omega,Nat.zero_le _,?_⟩
     ·by_cases hjm:j=m
      ·rw[hjm,hmn];exact hz0
      ·exact hz j (by omega)
     ·conv=>cbv
      trivial
    ·intro hc2
     have hz0:u.getD (n-1) 0 ≠ 0:=by
      have hc':Ω.cmp .eql (Ω.at' u (Ω.toN (Ω.bin .sub .i64 (Ω.ofN n) 1))) 0=false:=hc2
      rw[et]at hc'
      subst hΩ
      exact of_decide_eq_false hc'
     conv=>cbv
     refine hQ (u.take n,n) _ _ _ ⟨hfin (.inr hz0),by rw[List.length_take];omega⟩ ?_
     subst hΩ
     refine⟨⟨?_,⟨rfl,rfl⟩,trivial⟩,rfl,rfl⟩
     refine⟨rfl,rfl,?_,?_⟩
     ·show 0+n<=u.length;omega
     ·show u.take n=(u.drop 0).take n
      rw[List.drop_zero]
   ·intro hc
    have h0:n=0:=by
     have hc':Ω.cmp .geq (Ω.bin .sub .i64 (Ω.ofN n) 1) 0=false:=hc
     rw[es]at hc'
     subst hΩ
     have:=of_decide_eq_false hc'
     omega
    conv=>cbv
    refine hQ (u.take n,n) _ _ _ ⟨hfin (.inl h0),by rw[List.length_take];omega⟩ ?_
    subst hΩ
    refine⟨⟨?_,⟨rfl,rfl⟩,trivial⟩,rfl,rfl⟩
    refine⟨rfl,rfl,?_,?_⟩
    ·show 0+n<=u.length;omega
    ·show u.take n=(u.drop 0).take n
     rw[List.drop_zero]
end Go.Sx.Tryz
end
section

end
section
set_option maxHeartbeats 4000000
namespace Go.Sx.Tryz
open Go.Proofs
set_option maxRecDepth 40000
theorem tq (b:Int) : -64<b.tmod 64/\b.tmod 64<64/\b=64*b.tdiv 64+b.tmod 64:=by
 have h:=Int.mul_tdiv_add_tmod b 64
 have h2:=Int.tmod_lt_of_pos b (show(0:Int)<64 by decide)
 have h3:=Int.lt_tmod_of_pos b (show(0:Int)<64 by decide)
 omega
structure Shs (V:Nat) (W:Int) (N i:Nat) (u:List Int):Prop where
 len:u.length=N
 val : ∀ j,j<i->u.getD j 0=((wdI V ((j:Int)-W):Nat):Int)
 z : ∀ j,i<=j->u.getD j 0=0
theorem Shs.start (V:Nat) (W:Int) (N:Nat):Shs V W N 0 (List.replicate N 0):=⟨by simp,fun j hj=>by omega,fun j _=>qtX _ _⟩
theorem Shs.step {V:Nat} {W:Int} {N i:Nat} {u:List Int} (h:Shs V W N i u) (hi:i<N) {v:Int} (hv:v=((wdI V ((i:Int)-W):Nat):Int)):Shs V W N (i+1) (u.set i v):=by
 refine⟨by rw[List.length_set];exact h.len,fun j hj => ?_,fun j hj => ?_⟩
 ·rw[getD_set (by rw[h.len];exact hi)]
  split
  ·rename_i e;rw[hv,e]
  ·exact h.val j (by omega)
 ·rw[getD_set (by rw[h.len];exact hi),if_neg (by omega)]
  exact h.z j (by omega)
def qhA (Ω:Om):qd:=fun args=>match args with
 | [.roi .u64 xs,.int .i64 b]=>⟨∀ _:Unit,(W64 xs/\xs.length<1000000) /\ -65536<=b/\b<=65536,List Int × Nat,fun z=>z.1=natW (shV (wV xs) b)/\z.1.length<=z.2,fun z =>.tup [.fr .u64 z.1 z.2,.int .i64 0]⟩
 | _=>PR.none
noncomputable def qvE:List (FuncId × Func):=[(219,Tryz.f219)]
theorem qvF:Ctr Tryz.prog T glob 204 (qhA Om.real):=by
 refine qo T_ok qf qg (fun Ω=>[(225,qdh Ω)]) qvE (fun Ω=>[]) [] (qb qhv qh) (qL Tryz.call219 Tryz.func219 (by kernel_rfl) qi) qk ql Tryz.func204 (by rfl) (by kernel_rfl) Tryz.call204 ?_ ?_
 ·intro args;unfold qhA;split
  ·exact qdi ⟨trivial,trivial,trivial⟩ fun _=>qa5 _
  ·exact PR.good_none
 ·intro P Ω hΩ hE hI hm args pr hs hp Q hQ
  unfold qhA at hs
  split at hs<;>subst hs<;>try (exact hp.elim)
  rename_i xs b
  obtain⟨⟨hx,lx⟩,hb1,hb2⟩:=hp ()
  refine⟨1000,?_⟩
  conv=>cbv
  constructor
  ·intro h
   have h':False:=by (subst hΩ;have h2:=of_decide_eq_true h;change b < -65536 at h2;omega);first|done|(subst hΩ;exact Bool.noConfusion (show false=true from h))
   contradiction
  intro _
  conv=>cbv
  constructor
  ·intro h
   have h':False:=by (subst hΩ;have h2:=of_decide_eq_true h;change b > 65536 at h2;omega);first|done|(subst hΩ;exact Bool.noConfusion (show false=true from h))
   contradiction
  intro _
  have hT:=tq b
  have eQ:Ω.bin .quo .i64 b 64=b.tdiv 64:=by rw[hΩ];exact qbR (by omega) (by omega)
  have eR:Ω.bin .rem .i64 b 64=b.tmod 64:=by rw[hΩ];rfl
  conv=>cbv
  constructor
  ·intro hc
   have h1:b.tmod 64<0:=by subst hΩ;exact of_decide_eq_true hc
   obtain⟨qW,hqW⟩ : ∃ q,Ω.bin .sub .i64 (Ω.bin .quo .i64 b 64) 1=q:=⟨_,rfl⟩
   have eW:qW=b.tdiv 64-1:=by rw[<- hqW,eQ,hΩ];exact qO (by omega) (by omega)
   obtain⟨qU,hqU⟩ : ∃ q,Ω.bin .add .i64 (Ω.bin .rem .i64 b 64) 64=q:=⟨_,rfl⟩
   have eU:qU=b.tmod 64+64:=by rw[<- hqU,eR,hΩ];exact qw (by omega) (by omega)
   have hUr:0<=qU/\qU<64/\b=64*qW+qU:=by omega
   conv at hqW=>lhs;cbv
   conv at hqU=>lhs;cbv
   conv=>cbv
   rw[hqW,hqU]
   obtain⟨M,hM⟩ : ∃ M:Int,Ω.imax 0 (Ω.bin .add .i64 (Ω.bin .add .i64 (Ω.ofN (Ω.len xs)) qW) 1)=M:=⟨_,rfl⟩
   obtain⟨N,eN⟩ : ∃ N:Nat,N=(max 0 ((xs.length:Int)+qW+1)).toNat:=⟨_,rfl⟩
   have eM:M=(N:Int):=by
    rw[<- hM,eN]
    subst hΩ
    show max 0 (binL .add .i64 (binL .add .i64 ((xs.length:Nat):Int) qW) 1)=_
    rw[qw (a:=((xs.length:Nat):Int)) (b:=qW) (by omega) (by omega),qw (by omega) (by omega)];omega
   have hN:Ω.toN M=N:=by
    rw[eM]
    subst hΩ
    show((N:Nat):Int).toNat=N
    omega
   obtain⟨u0,hu0⟩ : ∃ u0,Ω.zer N=u0:=⟨_,rfl⟩
   have eu0:u0=List.replicate N 0:=by rw[<- hu0];subst hΩ;rfl
   obtain⟨K,hK⟩ : ∃ K:Int,Ω.ofN N=K:=⟨_,rfl⟩
   have eK:K=N:=by rw[<- hK];subst hΩ;rfl
   conv at hM=>lhs;cbv
   conv at hN=>lhs;cbv
   conv at hu0=>lhs;cbv
   conv at hK=>lhs;cbv
   obtain⟨U,hUq⟩ : ∃ U:Nat,qU=(U:Int):=⟨qU.toNat,by omega⟩
   have hU:U<64:=by omega
   have hbU:b=64*qW+(U:Int):=by omega
   rw[hM]
   rw[hN]
   rw[hu0,hK]
   constructor
   ·intro _
    show 0<=M/\M=M/\8*M.toNat<=140737488355328/\M<=140737488355328
    omega
   refine qr hE hI hm (fun z:Nat × List Int=>(mkT 61 [(0,.roi .u64 xs),(4,.val (.slice none 0 0)),(5,.lit .i64 0),(6,.int .i64 qW),(7,.int .i64 qU),(8,.sl 224 1 (.l 0) (.s N) (.s N)),(34,.int .i64 K),(35,.int .i64 z.1)],[(224,.seq .u64 z.2)])) (fun z=>z.1<=N/\Shs (wV xs*2^U) qW N z.1 z.2) (fun z=>N-z.1) 0 ⟨(0,u0),[],⟨Nat.zero_le _,by rw[eu0];exact Shs.start _ _ _⟩,Nat.zero_le _,?_⟩ fun z hz=>⟨1000,?_⟩
   ·conv=>cbv
    trivial
   obtain⟨i,u⟩:=z
   obtain⟨hi,hS⟩:i<=N/\Shs (wV xs*2^U) qW N i u:=hz
   conv=>cbv
   constructor
   ·intro hc2
    have hlt:(i:Int)<K:=by subst hΩ;exact of_decide_eq_true hc2
    obtain⟨p,hp1⟩ : ∃ p,Ω.bin .sub .i64 (Int.ofNat i) qW=p:=⟨_,rfl⟩
    have ep:p=(i:Int)-qW:=by
     rw[<- hp1,hΩ]
     show binL .sub .i64 (i:Int) qW=_
     rw[qO (by omega) (by omega)]
    obtain⟨p2,hp2⟩ : ∃ p2,Ω.bin .sub .i64 p 1=p2:=⟨_,rfl⟩
    have ep2:p2=p-1:=by rw[<- hp2,hΩ];exact qO (by omega) (by omega)
    obtain⟨r,hr⟩ : ∃ r,Ω.bin .sub .i64 64 qU=r:=⟨_,rfl⟩
    have er:r=((64-U:Nat):Int):=by
     rw[<- hr,hΩ]
     show binL .sub .i64 64 qU=_
     rw[qO (by omega) (by omega)];omega
    conv at hp1=>lhs;cbv
    conv at hp2=>lhs;cbv
    conv at hr=>lhs;cbv
    conv=>cbv
    rw[hp1]
    constructor;(first|exact fun(_:Unit)=>trivial|exact fun(_:Unit) (_:Unit)=>(by decide));intro _ _;conv=>cbv
    constructor
    ·exact fun _=>hUr.1
    rw[hp1]
    rw[hp2]
    constructor;(first|exact fun(_:Unit)=>trivial|exact fun(_:Unit) (_:Unit)=>(by decide));intro _ _;conv=>cbv
    rw[hr]
    (try rw[hp1])
    (try rw[hp2])
    have hw:=qoC (V:=wV xs) hU p
    have hst:=hS.step (show i<N by omega) (v:=binL .or .u64 (binL .shl .u64 (if 0<=p then xs.getD p.toNat 0 else 0) qU) (binL .shr .u64 (if 0<=p2 then xs.getD p2.toNat 0 else 0) r)) (by rw[qhh hx,qhh hx,hUq,er,ep2,hw,ep])
    have hul:=hS.len
    constructor
    ·exact fun _=>by omega
    constructor
    ·intro _
     exact⟨Int.natCast_nonneg i,show(i:Int)<((N:Nat):Int)by omega⟩
    constructor
    ·intro _
     subst hΩ
     show i<u.length
     omega
    obtain⟨u',hu'⟩ : ∃ u',u.set i (binL .or .u64 (binL .shl .u64 (if 0<=p then xs.getD p.toNat 0 else 0) qU) (binL .shr .u64 (if 0<=p2 then xs.getD p2.toNat 0 else 0) r))=u':=⟨_,rfl⟩
    rw[hu']at hst
    refine⟨(i+1,u'),[],⟨by show i+1<=N;omega,hst⟩,by show N-(i+1)<N-i;omega,Nat.zero_le _,?_⟩
    conv=>cbv
    refine⟨?_,?_⟩
    ·subst hΩ
     show binL .add .i64 (i:Int) 1=((i+1:Nat):Int)
     rw[qw (by omega) (by omega)]
     omega
    ·subst hΩ
     exact hu'
   ·intro hc2
    have hge : ¬ (i:Int)<K:=by subst hΩ;exact of_decide_eq_false hc2
    have hiN:i=N:=by omega
    subst hiN
    conv=>cbv
    refine qgf hE hI hm (fun n:Nat=>(mkT 21 [(0,.sl 224 1 (.l 0) (.s n) (.s n)),(2,.val (.slice none 0 0)),],[(224,.seq .u64 u)])) (fun n=>n<=i /\ ∀ j,n<=j->u.getD j 0=0) (fun n=>n) 0 ⟨i,[],⟨Nat.le_refl _,hS.z⟩,Nat.zero_le _,?_⟩ fun n hn=>⟨1000,?_⟩
    ·conv=>cbv
     trivial
    obtain⟨hni,hz⟩:n<=i /\ ∀ j,n<=j->u.getD j 0=0:=hn
    have hul:u.length=i:=hS.len
    have es:Ω.bin .sub .i64 (Ω.ofN n) 1=(n:Int)-1:=by
     subst hΩ
     show binL .sub .i64 (n:Int) 1=_
     rw[qO (by omega) (by omega)]
    have hfin:(n=0\/u.getD (n-1) 0 ≠ 0)->u.take n=natW (shV (wV xs) b):=fun h=>by
     obtain⟨e1,e2⟩:=qoB hx (W:=qW) (U:=U) (by':=b) hU hbU (by rw[hS.len];omega) (fun j hj=>hS.val j (by rw[hS.len]at hj;exact hj))
     rw[qhg e2 (by rw[hS.len];exact hni) hz h,e1]
    conv=>cbv
    constructor
    ·intro hc
     have h1:1<=n:=by
      have hc':Ω.cmp .geq (Ω.bin .sub .i64 (Ω.ofN n) 1) 0=true:=hc
      rw[es]at hc'
      subst hΩ
      have:=of_decide_eq_true hc'
      omega
     have et:Ω.toN (Ω.bin .sub .i64 (Ω.ofN n) 1)=n-1:=by
      rw[es];subst hΩ;show((n:Int)-1).toNat=n-1;omega
     conv=>cbv
     constructor
     ·intro _
      show 0<=Ω.bin .sub .i64 (Ω.ofN n) 1/\Ω.bin .sub .i64 (Ω.ofN n) 1<((n:Nat):Int)
      rw[es];omega
     constructor
     ·intro _
      show Ω.toN (Ω.bin .sub .i64 (Ω.ofN n) 1)+1<=u.length
      rw[et,hul];omega
     constructor
     ·intro hc2
      have hz0:u.getD (n-1) 0=0:=by
       have hc':Ω.cmp .eql (Ω.at' u (Ω.toN (Ω.bin .sub .i64 (Ω.ofN n) 1))) 0=true:=hc2
       rw[et]at hc'
       subst hΩ
       exact of_decide_eq_true hc'
      obtain⟨m,hm'⟩ : ∃ m,Ω.toN (Ω.bin .sub .i64 (Ω.ofN n) 1)=m:=⟨_,rfl⟩
      have hmn:m=n-1:=hm'.symm.trans et
      obtain⟨q,hq'⟩ : ∃ q,Ω.bin .sub .i64 (Ω.ofN n) 1=q:=⟨_,rfl⟩
      have hqn:0<=q:=by rw[<- hq',es];omega
      conv at hm'=>lhs;cbv
      conv at hq'=>lhs;cbv
      conv=>cbv
      constructor
      ·intro _
       rw[hm',hq']
       exact⟨trivial,hqn,hqn,Nat.zero_le _,Nat.le_refl _,(show m<=n by omega)⟩
      rw[hm',hq']
      refine⟨m,[],⟨by omega,fun j hj => ?_⟩,by omega,Nat.zero_le _,?_⟩
      ·by_cases hjm:j=m
       ·rw[hjm,hmn];exact hz0
       ·exact hz j (by omega)
      ·conv=>cbv
       trivial
     ·intro hc2
      have hz0:u.getD (n-1) 0 ≠ 0:=by
       have hc':Ω.cmp .eql (Ω.at' u (Ω.toN (Ω.bin .sub .i64 (Ω.ofN n) 1))) 0=false:=hc2
       rw[et]at hc'
       subst hΩ
       exact of_decide_eq_false hc'
      conv=>cbv
      refine hQ (u.take n,n) _ _ _ ⟨hfin (.inr hz0),by rw[List.length_take];omega⟩ ?_
      subst hΩ
      refine⟨⟨?_,⟨rfl,rfl⟩,trivial⟩,rfl,rfl⟩
      refine⟨rfl,rfl,?_,?_⟩
      ·show 0+n<=u.length;omega
      ·show u.take n=(u.drop 0).take n
       rw[List.drop_zero]
    ·intro hc
     have h0:n=0:=by
      have hc':Ω.cmp .geq (Ω.bin .sub .i64 (Ω.ofN n) 1) 0=false:=hc
      rw[es]at hc'
      subst hΩ
      have:=of_decide_eq_false hc'
      omega
     conv=>cbv
     refine hQ (u.take n,n) _ _ _ ⟨hfin (.inl h0),by rw[List.length_take];omega⟩ ?_
     subst hΩ
     refine⟨⟨?_,⟨rfl,rfl⟩,trivial⟩,rfl,rfl⟩
     refine⟨rfl,rfl,?_,?_⟩
     ·show 0+n<=u.length;omega
     ·show u.take n=(u.drop 0).take n
      rw[List.drop_zero]
  ·intro hc
   have h1 : ¬ b.tmod 64<0:=by subst hΩ;exact of_decide_eq_false hc
   obtain⟨qW,hqW⟩ : ∃ q,Ω.bin .quo .i64 b 64=q:=⟨_,rfl⟩
   have eW:qW=b.tdiv 64:=by rw[<- hqW,eQ]
   obtain⟨qU,hqU⟩ : ∃ q,Ω.bin .rem .i64 b 64=q:=⟨_,rfl⟩
   have eU:qU=b.tmod 64:=by rw[<- hqU,eR]
   have hUr:0<=qU/\qU<64/\b=64*qW+qU:=by omega
   conv at hqW=>lhs;cbv
   conv at hqU=>lhs;cbv
   conv=>cbv
   rw[hqW,hqU]
   obtain⟨M,hM⟩ : ∃ M:Int,Ω.imax 0 (Ω.bin .add .i64 (Ω.bin .add .i64 (Ω.ofN (Ω.len xs)) qW) 1)=M:=⟨_,rfl⟩
   obtain⟨N,eN⟩ : ∃ N:Nat,N=(max 0 ((xs.length:Int)+qW+1)).toNat:=⟨_,rfl⟩
   have eM:M=(N:Int):=by
    rw[<- hM,eN]
    subst hΩ
    show max 0 (binL .add .i64 (binL .add .i64 ((xs.length:Nat):Int) qW) 1)=_
    rw[qw (a:=((xs.length:Nat):Int)) (b:=qW) (by omega) (by omega),qw (by omega) (by omega)];omega
   have hN:Ω.toN M=N:=by
    rw[eM]
    subst hΩ
    show((N:Nat):Int).toNat=N
    omega
   obtain⟨u0,hu0⟩ : ∃ u0,Ω.zer N=u0:=⟨_,rfl⟩
   have eu0:u0=List.replicate N 0:=by rw[<- hu0];subst hΩ;rfl
   obtain⟨K,hK⟩ : ∃ K:Int,Ω.ofN N=K:=⟨_,rfl⟩
   have eK:K=N:=by rw[<- hK];subst hΩ;rfl
   conv at hM=>lhs;cbv
   conv at hN=>lhs;cbv
   conv at hu0=>lhs;cbv
   conv at hK=>lhs;cbv
   obtain⟨U,hUq⟩ : ∃ U:Nat,qU=(U:Int):=⟨qU.toNat,by omega⟩
   have hU:U<64:=by omega
   have hbU:b=64*qW+(U:Int):=by omega
   rw[hM]
   rw[hN]
   rw[hu0,hK]
   constructor
   ·intro _
    show 0<=M/\M=M/\8*M.toNat<=140737488355328/\M<=140737488355328
    omega
   refine qr hE hI hm (fun z:Nat × List Int=>(mkT 61 [(0,.roi .u64 xs),(4,.val (.slice none 0 0)),(5,.lit .i64 0),(6,.int .i64 qW),(7,.int .i64 qU),(8,.sl 176 1 (.l 0) (.s N) (.s N)),(34,.int .i64 K),(35,.int .i64 z.1)],[(176,.seq .u64 z.2)])) (fun z=>z.1<=N/\Shs (wV xs*2^U) qW N z.1 z.2) (fun z=>N-z.1) 0 ⟨(0,u0),[],⟨Nat.zero_le _,by rw[eu0];exact Shs.start _ _ _⟩,Nat.zero_le _,?_⟩ fun z hz=>⟨1000,?_⟩
   ·conv=>cbv
    trivial
   obtain⟨i,u⟩:=z
   obtain⟨hi,hS⟩:i<=N/\Shs (wV xs*2^U) qW N i u:=hz
   conv=>cbv
   constructor
   ·intro hc2
    have hlt:(i:Int)<K:=by subst hΩ;exact of_decide_eq_true hc2
    obtain⟨p,hp1⟩ : ∃ p,Ω.bin .sub .i64 (Int.ofNat i) qW=p:=⟨_,rfl⟩
    have ep:p=(i:Int)-qW:=by
     rw[<- hp1,hΩ]
     show binL .sub .i64 (i:Int) qW=_
     rw[qO (by omega) (by omega)]
    obtain⟨p2,hp2⟩ : ∃ p2,Ω.bin .sub .i64 p 1=p2:=⟨_,rfl⟩
    have ep2:p2=p-1:=by rw[<- hp2,hΩ];exact qO (by omega) (by omega)
    obtain⟨r,hr⟩ : ∃ r,Ω.bin .sub .i64 64 qU=r:=⟨_,rfl⟩
    have er:r=((64-U:Nat):Int):=by
     rw[<- hr,hΩ]
     show binL .sub .i64 64 qU=_
     rw[qO (by omega) (by omega)];omega
    conv at hp1=>lhs;cbv
    conv at hp2=>lhs;cbv
    conv at hr=>lhs;cbv
    conv=>cbv
    rw[hp1]
    constructor;(first|exact fun(_:Unit)=>trivial|exact fun(_:Unit) (_:Unit)=>(by decide));intro _ _;conv=>cbv
    constructor
    ·exact fun _=>hUr.1
    rw[hp1]
    rw[hp2]
    constructor;(first|exact fun(_:Unit)=>trivial|exact fun(_:Unit) (_:Unit)=>(by decide));intro _ _;conv=>cbv
    rw[hr]
    (try rw[hp1])
    (try rw[hp2])
    have hw:=qoC (V:=wV xs) hU p
    have hst:=hS.step (show i<N by omega) (v:=binL .or .u64 (binL .shl .u64 (if 0<=p then xs.getD p.toNat 0 else 0) qU) (binL .shr .u64 (if 0<=p2 then xs.getD p2.toNat 0 else 0) r)) (by rw[qhh hx,qhh hx,hUq,er,ep2,hw,ep])
    have hul:=hS.len
    constructor
    ·exact fun _=>by omega
    constructor
    ·intro _
     exact⟨Int.natCast_nonneg i,show(i:Int)<((N:Nat):Int)by omega⟩
    constructor
    ·intro _
     subst hΩ
     show i<u.length
     omega
    obtain⟨u',hu'⟩ : ∃ u',u.set i (binL .or .u64 (binL .shl .u64 (if 0<=p then xs.getD p.toNat 0 else 0) qU) (binL .shr .u64 (if 0<=p2 then xs.getD p2.toNat 0 else 0) r))=u':=⟨_,rfl⟩
    rw[hu']at hst
    refine⟨(i+1,u'),[],⟨by show i+1<=N;omega,hst⟩,by show N-(i+1)<N-i;omega,Nat.zero_le _,?_⟩
    conv=>cbv
    refine⟨?_,?_⟩
    ·subst hΩ
     show binL .add .i64 (i:Int) 1=((i+1:Nat):Int)
     rw[qw (by omega) (by omega)]
     omega
    ·subst hΩ
     exact hu'
   ·intro hc2
    have hge : ¬ (i:Int)<K:=by subst hΩ;exact of_decide_eq_false hc2
    have hiN:i=N:=by omega
    subst hiN
    conv=>cbv
    refine qgf hE hI hm (fun n:Nat=>(mkT 21 [(0,.sl 176 1 (.l 0) (.s n) (.s n)),(2,.val (.slice none 0 0)),],[(176,.seq .u64 u)])) (fun n=>n<=i /\ ∀ j,n<=j->u.getD j 0=0) (fun n=>n) 0 ⟨i,[],⟨Nat.le_refl _,hS.z⟩,Nat.zero_le _,?_⟩ fun n hn=>⟨1000,?_⟩
    ·conv=>cbv
     trivial
    obtain⟨hni,hz⟩:n<=i /\ ∀ j,n<=j->u.getD j 0=0:=hn
    have hul:u.length=i:=hS.len
    have es:Ω.bin .sub .i64 (Ω.ofN n) 1=(n:Int)-1:=by
     subst hΩ
     show binL .sub .i64 (n:Int) 1=_
     rw[qO (by omega) (by omega)]
    have hfin:(n=0\/u.getD (n-1) 0 ≠ 0)->u.take n=natW (shV (wV xs) b):=fun h=>by
     obtain⟨e1,e2⟩:=qoB hx (W:=qW) (U:=U) (by':=b) hU hbU (by rw[hS.len];omega) (fun j hj=>hS.val j (by rw[hS.len]at hj;exact hj))
     rw[qhg e2 (by rw[hS.len];exact hni) hz h,e1]
    conv=>cbv
    constructor
    ·intro hc
     have h1:1<=n:=by
      have hc':Ω.cmp .geq (Ω.bin .sub .i64 (Ω.ofN n) 1) 0=true:=hc
      rw[es]at hc'
      subst hΩ
      have:=of_decide_eq_true hc'
      omega
     have et:Ω.toN (Ω.bin .sub .i64 (Ω.ofN n) 1)=n-1:=by
      rw[es];subst hΩ;show((n:Int)-1).toNat=n-1;omega
     conv=>cbv
     constructor
     ·intro _
      show 0<=Ω.bin .sub .i64 (Ω.ofN n) 1/\Ω.bin .sub .i64 (Ω.ofN n) 1<((n:Nat):Int)
      rw[es];omega
     constructor
     ·intro _
      show Ω.toN (Ω.bin .sub .i64 (Ω.ofN n) 1)+1<=u.length
      rw[et,hul];omega
     constructor
     ·intro hc2
      have hz0:u.getD (n-1) 0=0:=by
       have hc':Ω.cmp .eql (Ω.at' u (Ω.toN (Ω.bin .sub .i64 (Ω.ofN n) 1))) 0=true:=hc2
       rw[et]at hc'
       subst hΩ
       exact of_decide_eq_true hc'
      obtain⟨m,hm'⟩ : ∃ m,Ω.toN (Ω.bin .sub .i64 (Ω.ofN n) 1)=m:=⟨_,rfl⟩
      have hmn:m=n-1:=hm'.symm.trans et
      obtain⟨q,hq'⟩ : ∃ q,Ω.bin .sub .i64 (Ω.ofN n) 1=q:=⟨_,rfl⟩
      have hqn:0<=q:=by rw[<- hq',es];omega
      conv at hm'=>lhs;cbv
      conv at hq'=>lhs;cbv
      conv=>cbv
      constructor
      ·intro _
       rw[hm',hq']
       exact⟨trivial,hqn,hqn,Nat.zero_le _,Nat.le_refl _,(show m<=n by omega)⟩
      rw[hm',hq']
      refine⟨m,[],⟨by omega,fun j hj => ?_⟩,by omega,Nat.zero_le _,?_⟩
      ·by_cases hjm:j=m
       ·rw[hjm,hmn];exact hz0
       ·exact hz j (by omega)
      ·conv=>cbv
       trivial
     ·intro hc2
      have hz0:u.getD (n-1) 0 ≠ 0:=by
       have hc':Ω.cmp .eql (Ω.at' u (Ω.toN (Ω.bin .sub .i64 (Ω.ofN n) 1))) 0=false:=hc2
       rw[et]at hc'
       subst hΩ
       exact of_decide_eq_false hc'
      conv=>cbv
      refine hQ (u.take n,n) _ _ _ ⟨hfin (.inr hz0),by rw[List.length_take];omega⟩ ?_
      subst hΩ
      refine⟨⟨?_,⟨rfl,rfl⟩,trivial⟩,rfl,rfl⟩
      refine⟨rfl,rfl,?_,?_⟩
      ·show 0+n<=u.length;omega
      ·show u.take n=(u.drop 0).take n
       rw[List.drop_zero]
    ·intro hc
     have h0:n=0:=by
      have hc':Ω.cmp .geq (Ω.bin .sub .i64 (Ω.ofN n) 1) 0=false:=hc
      rw[es]at hc'
      subst hΩ
      have:=of_decide_eq_false hc'
      omega
     conv=>cbv
     refine hQ (u.take n,n) _ _ _ ⟨hfin (.inl h0),by rw[List.length_take];omega⟩ ?_
     subst hΩ
     refine⟨⟨?_,⟨rfl,rfl⟩,trivial⟩,rfl,rfl⟩
     refine⟨rfl,rfl,?_,?_⟩
     ·show 0+n<=u.length;omega
     ·show u.take n=(u.drop 0).take n
      rw[List.drop_zero]
end Go.Sx.Tryz
end
section
set_option maxHeartbeats 4000000
namespace Go.Sx.Tryz
open Go.Proofs
set_option maxRecDepth 40000
structure Bys (V N i:Nat) (u:List Int):Prop where
 len:u.length=N
 val : ∀ j,j<i->u.getD j 0=((V / 256^j % 256:Nat):Int)
theorem Bys.start (V N:Nat):Bys V N 0 (List.replicate N 0):=⟨by simp,fun j hj=>by omega⟩
theorem Bys.step {V N i:Nat} {u:List Int} (h:Bys V N i u) (hi:i<N) {v:Int} (hv:v=((V / 256^i % 256:Nat):Int)):Bys V N (i+1) (u.set i v):=by
 refine⟨by rw[List.length_set];exact h.len,fun j hj => ?_⟩
 rw[getD_set (by rw[h.len];exact hi)]
 split
 ·rename_i e;rw[hv,e]
 ·exact h.val j (by omega)
theorem Bys.done {V N:Nat} {u:List Int} (h:Bys V N N u):u=qP V N:=by
 apply List.ext_getElem
 ·rw[qbS,h.len]
 ·intro j h1 h2
  have hj:=h.val j (by rw[h.len]at h1;exact h1)
  rw[List.getD_eq_getElem?_getD,List.getElem?_eq_getElem h1]at hj
  simp only[Option.getD_some]at hj
  rw[hj]
  simp[qP]
def qxq (Ω:Om):qd:=fun args=>match args with
 | [.roi .u8 bs]=>⟨∀ _:Unit,Byt bs/\bs.length<1000000,List Int × Nat,fun z=>z.1=natW (nV bs)/\z.1.length<=z.2,fun z =>.fr .u64 z.1 z.2⟩
 | _=>PR.none
def qhB (Ω:Om):qd:=fun args=>match args with
 | [.roi .u64 xs,.int .i64 s]=>⟨∀ _:Unit,(W64 xs/\xs.length<1000000)/\(0<=s/\s<=65536)/\wV xs<256^s.toNat,List Int × Nat,fun z=>z.1=qP (wV xs) s.toNat/\z.1.length<=z.2,fun z =>.tup [.fr .u8 z.1 z.2,.int .i64 0]⟩
 | _=>PR.none
theorem qvG:Ctr Tryz.prog T glob 151 (qhB Om.real):=by
 refine qo T_ok qf qg (fun Ω=>[(205,qhx Ω),(225,qdh Ω)]) [] (fun Ω=>[]) [] (qb qvz (qb qhv qh)) qi qk ql Tryz.func151 (by rfl) (by kernel_rfl) Tryz.call151 ?_ ?_
 ·intro args;unfold qhB;split
  ·exact qdi ⟨trivial,trivial,trivial⟩ fun _=>qa5 _
  ·exact PR.good_none
 ·intro P Ω hΩ hE hI hm args pr hs hp Q hQ
  unfold qhB at hs
  split at hs<;>subst hs<;>try (exact hp.elim)
  rename_i xs s
  obtain⟨⟨hx,lx⟩,⟨s0,s1⟩,hlt0⟩:=hp ()
  refine⟨1000,?_⟩
  obtain⟨N,eN⟩ : ∃ N:Nat,N=s.toNat:=⟨_,rfl⟩
  have eM:s=(N:Int):=by omega
  rw[<- eN]at hlt0
  have hN:Ω.toN s=N:=by rw[hΩ,eN];rfl
  obtain⟨u0,hu0⟩ : ∃ u0,Ω.zer N=u0:=⟨_,rfl⟩
  have eu0:u0=List.replicate N 0:=by rw[<- hu0,hΩ];rfl
  obtain⟨K,hK⟩ : ∃ K:Int,Ω.ofN N=K:=⟨_,rfl⟩
  have eK:K=N:=by rw[<- hK,hΩ];rfl
  conv at hN=>lhs;cbv
  conv at hu0=>lhs;cbv
  conv at hK=>lhs;cbv
  conv=>cbv
  constructor
  ·intro h
   have h':False:=by (subst hΩ;have h2:=of_decide_eq_true h;change s<0 at h2;omega);first|done|(subst hΩ;exact Bool.noConfusion (show false=true from h))
   contradiction
  intro _
  conv=>cbv
  constructor
  ·intro h
   have h':False:=by (subst hΩ;have h2:=of_decide_eq_true h;change s > 65536 at h2;omega);first|done|(subst hΩ;exact Bool.noConfusion (show false=true from h))
   contradiction
  intro _
  conv=>cbv
  constructor
  ·exact fun _ _=>⟨hx,lx⟩
  intro (z:Nat) hz
  have hz2:z<=8*N:=by
   have h1:IsLen (wV xs) z/\z<=64000000:=hz
   rcases h1.1.2 with e|e
   ·omega
   ·have h3:2^(z-1)<2^(8*N):=Nat.lt_of_le_of_lt e (by rw[Nat.pow_mul];exact hlt0)
    have h4:=(Nat.pow_lt_pow_iff_right (show 1<2 by decide)).1 h3
    omega
  conv=>cbv
  constructor
  ·intro h
   have h':False:=by (subst hΩ;have h2:=of_decide_eq_true h;change (z:Int) > binL .mul .i64 8 s at h2;rw[qaU (by omega) (by omega)]at h2;omega);first|done|(subst hΩ;exact Bool.noConfusion (show false=true from h))
   contradiction
  intro _
  conv=>cbv
  rw[hN]
  rw[hu0,hK]
  constructor
  ·intro _
   show 0<=s/\s=s/\1*s.toNat<=140737488355328/\s<=140737488355328
   omega
  refine qr hE hI hm (fun z:Nat × List Int=>(mkT 42 [(0,.roi .u64 xs),(4,.val (.slice none 0 0)),(5,.lit .i64 0),(6,.sl 128 1 (.l 0) (.s N) (.s N)),(24,.int .i64 K),(25,.int .i64 z.1)],[(128,.seq .u8 z.2)])) (fun z=>z.1<=N/\Bys (wV xs) N z.1 z.2) (fun z=>N-z.1) 0 ⟨(0,u0),[],⟨Nat.zero_le _,by rw[eu0];exact Bys.start _ _⟩,Nat.zero_le _,?_⟩ fun z hz=>⟨1000,?_⟩
  ·conv=>cbv
   trivial
  obtain⟨i,u⟩:=z
  obtain⟨hi,hS⟩:i<=N/\Bys (wV xs) N i u:=hz
  conv=>cbv
  constructor
  ·intro hc
   have hlt:(i:Int)<K:=by subst hΩ;exact of_decide_eq_true hc
   obtain⟨g,hg⟩ : ∃ g,Ω.bin .quo .i64 (Int.ofNat i) 8=g:=⟨_,rfl⟩
   obtain⟨G,hG⟩ : ∃ G:Nat,i / 8=G:=⟨_,rfl⟩
   have eg:g=(G:Int):=by
    rw[<- hg,hΩ,<- hG]
    exact qcX i 8 (by omega)
   obtain⟨r,hr⟩ : ∃ r,Ω.bin .mul .i64 8 (Ω.bin .rem .i64 (Int.ofNat i) 8)=r:=⟨_,rfl⟩
   have er:r=((8*(i % 8):Nat):Int):=by
    rw[<- hr,hΩ]
    show binL .mul .i64 8 (binL .rem .i64 (i:Int) ((8:Nat):Int))=_
    rw[qeC,qaU (by omega) (by omega)];omega
   obtain⟨i2,hi2⟩ : ∃ i2,Ω.bin .add .i64 (Int.ofNat i) 1=i2:=⟨_,rfl⟩
   have ei2:i2=((i+1:Nat):Int):=by
    rw[<- hi2,hΩ]
    show binL .add .i64 (i:Int) 1=_
    rw[qw (by omega) (by omega)];omega
   have hst:=hS.step (show i<N by omega) (v:=IntKind.u8.wrap (binL .shr .u64 (if 0<=g then xs.getD g.toNat 0 else 0) r)) (by rw[eg,qt7 hx,er,<- hG,qt6])
   have hul:=hS.len
   obtain⟨u',hu'⟩ : ∃ u',u.set i (IntKind.u8.wrap (binL .shr .u64 (if 0<=g then xs.getD g.toNat 0 else 0) r))=u':=⟨_,rfl⟩
   rw[hu']at hst
   conv at hg=>lhs;cbv
   conv at hr=>lhs;cbv
   conv at hi2=>lhs;cbv
   conv=>cbv
   rw[hg]
   constructor;(first|exact fun(_:Unit)=>trivial|exact fun(_:Unit) (_:Unit)=>(by decide));intro _ _;conv=>cbv
   rw[hr]
   rw[hi2]
   constructor
   ·exact fun _=>by omega
   constructor
   ·intro _
    exact⟨Int.natCast_nonneg i,show(i:Int)<((N:Nat):Int)by omega⟩
   constructor
   ·intro _
    subst hΩ
    show i<u.length
    omega
   refine⟨(i+1,u'),[],⟨by show i+1<=N;omega,hst⟩,by show N-(i+1)<N-i;omega,Nat.zero_le _,?_⟩
   conv=>cbv
   refine⟨ei2,?_⟩
   subst hΩ
   rw[<- hu']
   rfl
  ·intro hc
   have hge : ¬ (i:Int)<K:=by subst hΩ;exact of_decide_eq_false hc
   have hiN:i=N:=by omega
   subst hiN
   have hul:=hS.len
   conv=>cbv
   refine hQ (u,i) _ _ _ ⟨by rw[<- eN];exact hS.done,by show u.length<=i;omega⟩ ?_
   subst hΩ
   refine⟨⟨?_,⟨rfl,rfl⟩,trivial⟩,rfl,rfl⟩
   refine⟨rfl,rfl,?_,?_⟩
   ·show 0+i<=u.length;omega
   ·show u=(u.drop 0).take i
    rw[List.drop_zero,List.take_of_length_le (by omega)]
end Go.Sx.Tryz
end
