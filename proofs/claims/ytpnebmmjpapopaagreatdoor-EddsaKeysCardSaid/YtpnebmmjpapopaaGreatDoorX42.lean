/-
  Part of the proof of a statement: the means.
-/
import Derived.Test.YtpnebmmjpapopaaGreatDoorX40
import Derived.Test.YtpnebmmjpapopaaGreatDoorX24
import Derived.Test.YtpnebmmjpapopaaGreatDoorX41
set_option linter.unusedSectionVars false
set_option linter.unusedVariables false
set_option linter.unusedSimpArgs false
set_option linter.deprecated false
section
set_option maxHeartbeats 4000000
namespace Go.Sx.Tryz
open Go.Proofs
set_option maxRecDepth 40000
theorem qnP (l:Int) : ∀ n,∀ a ∈ K.lbUp l n,0<=a/\a<256
 | 0,a,h=>by simp[K.lbUp]at h
 | n+1,a,h=>by
   simp only[K.lbUp,List.mem_append,List.mem_singleton]at h
   rcases h with h|h
   · exact qnP l n a h
   · rw[h,IntKind.wrap_u8]
     omega
theorem qi5 (s:List Int) : ∀ n,∀ a ∈ K.bytesUp s n,0<=a/\a<256
 | 0,a,h=>by simp[K.bytesUp]at h
 | n+1,a,h=>by
   simp only[K.bytesUp,List.mem_append]at h
   rcases h with h|h
   · exact qi5 s n a h
   · exact qnP _ 8 a h
theorem qnQ (s:List Int) : ∀ n,∀ a ∈ K.sq s n,0<=a/\a<256
 | 0,a,h=>by simp[K.sq]at h
 | n+1,a,h=>by
   simp only[K.sq,List.mem_append]at h
   rcases h with h|h
   · exact qnQ s n a h
   · exact qi5 _ 25 a (List.mem_of_mem_take h)
theorem qtz (M:List Int) (n:Nat) : ∀ a ∈ K.tl M n,0<=a/\a<256:=by
 intro a h
 have h:=List.mem_of_mem_take h
 unfold K.tail at h
 rcases List.mem_append.1 h with h|h
 ·unfold K.tellR at h
  rw[if_neg (by decide)]at h
  exact qi5 _ 25 a (List.mem_of_mem_take h)
 ·exact qnQ _ _ a h
@[irreducible] def hB (l:List Int):List Int:=K.tl l 114
theorem hB_len (l:List Int):(hB l).length=114:=by unfold hB;exact K.tl_len _ _
theorem hB_byt (l:List Int):Byt (hB l):=by unfold hB;exact qtz _ _
def qi6 (Ω:Om):qe:=K.s25
theorem qtA:Ctr Tryz.prog T glob 66 (qi6 Om.real):=K.c25
theorem qnR {Ω:Om} {xss:List (List Int)} {z:K.RdRes} (h:(qi6 Ω [.int .i64 114,.rol .u8 xss]).post z):z.er=0/\z.out=hB xss.flatten/\z.out.length<=z.c:=by
 have h2:=(K.sum_of h).2 (by unfold K.badN;omega)
 unfold hB
 exact h2
def qnS (Ω:Om):qe:=K.s26
theorem qtB:Ctr Tryz.prog T glob 69 (qnS Om.real):=K.c26
theorem qnT {l:List Int} (h:Byt l):K.told l 114=hB l:=by
 unfold hB
 exact(K.tl_told h 114).symm
theorem qtC {args:List SVal} {p:Prop} {post:Int × List Int × Nat->Prop} (hc:IdsLtL noId args) (h:p -> ∃ x,post x):PR.Good ⟨p,Int × List Int × Nat,post,fun z =>.tup [.fr .u8 z.2.1 z.2.2,.int .i64 z.1]⟩ args :=
 ⟨fun _=>⟨trivial,trivial,trivial⟩,fun E x b q hq=>by simp[place,place.placeL]at hq;subst hq;exact⟨Nat.le_refl _,by simp⟩,fun _=>hc,h⟩
theorem qtD (f:Int) (cx:List Int) : ∃ z:Int × List Int × Nat,(z.1=domE f cx/\(z.1=0->z.2.1=domB f cx))/\(z.1 ≠ 0->z.2.1=[])/\z.2.1.length<=z.2.2:=by
 by_cases h:domE f cx=0
 ·exact⟨(0,domB f cx,(domB f cx).length),⟨h.symm,fun _=>rfl⟩,fun h=>absurd rfl h,Nat.le_refl _⟩
 ·exact⟨(domE f cx,[],0),⟨rfl,fun h2=>absurd h2 h⟩,fun _=>rfl,Nat.le_refl _⟩
theorem qgN {f:Int} {cx:List Int} (hf:f=0\/f=1) (hl:cx.length<=255):[[83,105,103,69,100,52,52,56],[IntKind.u8.wrap f,IntKind.u8.wrap ((cx.length:Nat):Int)],cx].flatten=domB f cx:=by
 rw[IntKind.wrap_u8,IntKind.wrap_u8,show f % 256=f by omega,show((cx.length:Nat):Int) % 256=cx.length by omega]
 simp[domB]
def qet (Ω:Om):qe:=fun args=>match args with
 | [.int .i64 f,.roi .u8 cx]=>⟨∀ _:Unit,cx.length<9223372036854775808,Int × List Int × Nat,fun z=>(z.1=domE f cx/\(z.1=0->z.2.1=domB f cx))/\(z.1 ≠ 0->z.2.1=[])/\z.2.1.length<=z.2.2,fun z =>.tup [.fr .u8 z.2.1 z.2.2,.int .i64 z.1]⟩
 | _=>PR.none
theorem qnU:Ctr Tryz.prog T glob 16 (qet Om.real):=by
 refine qq T_ok qf qg (fun Ω=>[(65,qgi Ω)]) [] (fun Ω=>[]) [] (qc qsm qh) qi qk ql Tryz.func16 (by rfl) (by kernel_rfl) Tryz.call16 ?_ ?_
 ·intro args;unfold qet;split
  ·exact qtC ⟨trivial,trivial,trivial⟩ fun _=>qtD _ _
  ·exact PR.good_none
 ·intro P Ω hΩ hE hI hm args pr hs hp Q hQ
  unfold qet at hs
  split at hs<;>subst hs<;>try (exact hp.elim)
  rename_i f cx
  have hl:=hp ()
  refine⟨1000,?_⟩
  conv=>cbv
  constructor
  ·intro h0
   have hne:f ≠ 0:=by
    subst hΩ
    exact of_decide_eq_true (p:=f ≠ 0) (by rw[show decide (f ≠ 0)=(f != 0)by simp[bne];rfl];exact h0)
   conv=>cbv
   constructor
   ·intro h1
    have hne1:f ≠ 1:=by
     subst hΩ
     exact of_decide_eq_true (p:=f ≠ 1) (by rw[show decide (f ≠ 1)=(f != 1)by simp[bne];rfl];exact h1)
    conv=>cbv
    refine hQ (1,[],0) _ _ _ ⟨⟨by show 1=domE f cx;unfold domE;rw[if_neg (by omega)],fun h=>absurd h (show ¬ (1:Int)=0 by decide)⟩,fun _=>rfl,Nat.le_refl _⟩ ?_
    subst hΩ
    exact⟨⟨⟨rfl,rfl⟩,⟨rfl,rfl⟩,trivial⟩,rfl,rfl⟩
   ·intro h1
    have hf:f=0\/f=1:=by
     subst hΩ
     have h2:(f != 1)=false:=h1
     right
     simpa using h2
    conv=>cbv
    constructor
    ·intro h5
     have hgt:255<cx.length:=by
      subst hΩ
      have h2:=of_decide_eq_true h5
      change ((cx.length:Nat):Int) > 255 at h2
      omega
     conv=>cbv
     refine hQ (21,[],0) _ _ _ ⟨⟨by show 21=domE f cx;unfold domE;rw[if_pos hf,if_pos hgt],fun h=>absurd h (show ¬ (21:Int)=0 by decide)⟩,fun _=>rfl,Nat.le_refl _⟩ ?_
     subst hΩ
     exact⟨⟨⟨rfl,rfl⟩,⟨rfl,rfl⟩,trivial⟩,rfl,rfl⟩
    ·intro h5
     have hle:cx.length<=255:=by
      subst hΩ
      have h2:=of_decide_eq_false h5
      change ¬ ((cx.length:Nat):Int) > 255 at h2
      omega
     conv=>cbv
     constructor
     ·exact fun _=>trivial
     constructor
     ·exact fun _=>⟨⟨(by decide:0+8<=8),(by decide:0+2<=2),trivial,trivial⟩,trivial⟩
     constructor
     ·exact fun _ _=>(by subst hΩ;show [[83,105,103,69,100,52,52,56],[IntKind.u8.wrap f,IntKind.u8.wrap ((cx.length:Nat):Int)],cx].length<100000/\[[83,105,103,69,100,52,52,56],[IntKind.u8.wrap f,IntKind.u8.wrap ((cx.length:Nat):Int)],cx].flatten.length<=100000000;rw[qgN hf hle,qcp];exact⟨(show 3<100000 by decide),by omega⟩)
     intro z hz
     have hz:z.1=domB f cx/\z.1.length<=z.2:=by
      subst hΩ
      have h1:z.1=[[83,105,103,69,100,52,52,56],[IntKind.u8.wrap f,IntKind.u8.wrap ((cx.length:Nat):Int)],cx].flatten/\z.1.length<=z.2:=hz
      rw[qgN hf hle]at h1
      exact h1
     conv=>cbv
     refine hQ (0,z.1,z.2) _ _ _ ⟨⟨by show 0=domE f cx;unfold domE;rw[if_pos hf,if_neg (by omega)],fun _=>hz.1⟩,fun h=>absurd rfl h,hz.2⟩ ?_
     subst hΩ
     exact⟨⟨⟨rfl,rfl,(show 0+z.1.length<=z.1.length by omega),(by show z.1=(z.1.drop 0).take z.1.length;rw[List.drop_zero,List.take_length])⟩,⟨rfl,rfl⟩,trivial⟩,rfl,rfl⟩
  ·intro h0
   have hf:f=0\/f=1:=by
    subst hΩ
    have h2:(f != 0)=false:=h0
    left
    simpa using h2
   conv=>cbv
   constructor
   ·intro h5
    have hgt:255<cx.length:=by
     subst hΩ
     have h2:=of_decide_eq_true h5
     change ((cx.length:Nat):Int) > 255 at h2
     omega
    conv=>cbv
    refine hQ (21,[],0) _ _ _ ⟨⟨by show 21=domE f cx;unfold domE;rw[if_pos hf,if_pos hgt],fun h=>absurd h (show ¬ (21:Int)=0 by decide)⟩,fun _=>rfl,Nat.le_refl _⟩ ?_
    subst hΩ
    exact⟨⟨⟨rfl,rfl⟩,⟨rfl,rfl⟩,trivial⟩,rfl,rfl⟩
   ·intro h5
    have hle:cx.length<=255:=by
     subst hΩ
     have h2:=of_decide_eq_false h5
     change ¬ ((cx.length:Nat):Int) > 255 at h2
     omega
    conv=>cbv
    constructor
    ·exact fun _=>trivial
    constructor
    ·exact fun _=>⟨⟨(by decide:0+8<=8),(by decide:0+2<=2),trivial,trivial⟩,trivial⟩
    constructor
    ·exact fun _ _=>(by subst hΩ;show [[83,105,103,69,100,52,52,56],[IntKind.u8.wrap f,IntKind.u8.wrap ((cx.length:Nat):Int)],cx].length<100000/\[[83,105,103,69,100,52,52,56],[IntKind.u8.wrap f,IntKind.u8.wrap ((cx.length:Nat):Int)],cx].flatten.length<=100000000;rw[qgN hf hle,qcp];exact⟨(show 3<100000 by decide),by omega⟩)
    intro z hz
    have hz:z.1=domB f cx/\z.1.length<=z.2:=by
     subst hΩ
     have h1:z.1=[[83,105,103,69,100,52,52,56],[IntKind.u8.wrap f,IntKind.u8.wrap ((cx.length:Nat):Int)],cx].flatten/\z.1.length<=z.2:=hz
     rw[qgN hf hle]at h1
     exact h1
    conv=>cbv
    refine hQ (0,z.1,z.2) _ _ _ ⟨⟨by show 0=domE f cx;unfold domE;rw[if_pos hf,if_neg (by omega)],fun _=>hz.1⟩,fun h=>absurd rfl h,hz.2⟩ ?_
    subst hΩ
    exact⟨⟨⟨rfl,rfl,(show 0+z.1.length<=z.1.length by omega),(by show z.1=(z.1.drop 0).take z.1.length;rw[List.drop_zero,List.take_length])⟩,⟨rfl,rfl⟩,trivial⟩,rfl,rfl⟩
def qgO (Ω:Om):qe:=fun args=>match args with
 | [.int .i64 f,.roi .u8 cx]=>⟨∀ _:Unit,cx.length<9223372036854775808,Unit,fun _=>True,fun _ =>.int .i64 (Ω.hide _ fun _=>domE f cx)⟩
 | _=>PR.none
theorem qtE:Ctr Tryz.prog T glob 17 (qgO Om.real):=by
 refine qq T_ok qf qg (fun Ω=>[]) [] (fun Ω=>[]) [] qh qi qk ql Tryz.func17 (by rfl) (by kernel_rfl) Tryz.call17 ?_ ?_
 ·intro args;unfold qgO;split
  ·exact qo (by repeat' constructor) (fun _ _=>rfl) (by repeat' constructor)
  ·exact PR.good_none
 ·intro P Ω hΩ hE hI hm args pr hs hp Q hQ
  unfold qgO at hs
  split at hs<;>subst hs<;>try (exact hp.elim)
  rename_i f cx
  have hl:=hp ()
  refine⟨1000,?_⟩
  conv=>cbv
  constructor
  ·intro h0
   have hne:f<0:=by subst hΩ;exact of_decide_eq_true h0
   conv=>cbv
   refine hQ () _ _ _ trivial ⟨rfl,?_⟩
   subst hΩ
   show 1=domE f cx
   unfold domE
   rw[if_neg (by omega)]
  ·intro h0
   have hge : ¬ f<0:=by subst hΩ;exact of_decide_eq_false h0
   conv=>cbv
   constructor
   ·intro h1
    have hne:f > 1:=by subst hΩ;exact of_decide_eq_true h1
    conv=>cbv
    refine hQ () _ _ _ trivial ⟨rfl,?_⟩
    subst hΩ
    show 1=domE f cx
    unfold domE
    rw[if_neg (by omega)]
   ·intro h1
    have hle1 : ¬ f > 1:=by subst hΩ;exact of_decide_eq_false h1
    conv=>cbv
    constructor
    ·intro h5
     have hgt:255<cx.length:=by
      subst hΩ
      have h2:=of_decide_eq_true h5
      change ((cx.length:Nat):Int) > 255 at h2
      omega
     conv=>cbv
     refine hQ () _ _ _ trivial ⟨rfl,?_⟩
     subst hΩ
     show 21=domE f cx
     unfold domE
     rw[if_pos (by omega),if_pos hgt]
    ·intro h5
     have hle:cx.length<=255:=by
      subst hΩ
      have h2:=of_decide_eq_false h5
      change ¬ ((cx.length:Nat):Int) > 255 at h2
      omega
     conv=>cbv
     refine hQ () _ _ _ trivial ⟨rfl,?_⟩
     subst hΩ
     show 0=domE f cx
     unfold domE
     rw[if_pos (by omega),if_neg (by omega)]
def qgP (Ω:Om):qe:=fun args=>match args with
 | [.int .i64 f,.roi .u8 cx]=>⟨∀ _:Unit,(f=0\/f=1)/\cx.length<=255,List Int × Nat,fun z=>z.1=domB f cx/\z.1.length<=z.2,fun z =>.fr .u8 z.1 z.2⟩
 | _=>PR.none
theorem qtF:Ctr Tryz.prog T glob 19 (qgP Om.real):=by
 refine qq T_ok qf qg (fun Ω=>[]) [] (fun Ω=>[]) [] qh qi qk ql Tryz.func19 (by rfl) (by kernel_rfl) Tryz.call19 ?_ ?_
 ·intro args;unfold qgP;split
  ·exact qav ⟨trivial,trivial,trivial⟩ fun _=>qaM _
  ·exact PR.good_none
 ·intro P Ω hΩ hE hI hm args pr hs hp Q hQ
  unfold qgP at hs
  split at hs<;>subst hs<;>try (exact hp.elim)
  rename_i f cx
  obtain⟨hf,hl⟩:=hp ()
  refine⟨1000,?_⟩
  conv=>cbv
  constructor
  ·exact fun _=>trivial
  constructor
  ·exact fun _=>(by decide:(8+2)*1<=140737488355328)
  constructor
  ·exact fun _=>⟨(by decide:0+8*1<=8),(by decide:0+2*1<=2)⟩
  intro cap hcap
  conv=>cbv
  constructor
  ·exact fun _=>(by subst hΩ;show(10+cx.length)*1<=140737488355328;omega)
  constructor
  ·exact fun _=>⟨(by subst hΩ;exact(by decide:0+10*1<=10)),trivial⟩
  intro cap2 hcap2
  have hcap3:10+cx.length<=cap2:=by subst hΩ;exact hcap2
  conv=>cbv
  refine hQ (domB f cx,cap2) _ _ _ ⟨rfl,by show(domB f cx).length<=cap2;rw[qcp];exact hcap3⟩ ?_
  subst hΩ
  have e:[83,105,103,69,100,52,52,56,IntKind.u8.wrap f,IntKind.u8.wrap ((cx.length:Nat):Int)]++cx=domB f cx:=by
   rw[IntKind.wrap_u8,IntKind.wrap_u8,show f % 256=f by omega,show((cx.length:Nat):Int) % 256=cx.length by omega]
   rfl
  refine⟨rfl,rfl,?_,?_⟩
  ·refine Nat.le_trans (show 0+(10+cx.length)<=([83,105,103,69,100,52,52,56,IntKind.u8.wrap f,IntKind.u8.wrap ((cx.length:Nat):Int)]++cx).length by rw[e,qcp];omega) (Nat.le_of_eq rfl)
  ·show domB f cx=(([83,105,103,69,100,52,52,56,IntKind.u8.wrap f,IntKind.u8.wrap ((cx.length:Nat):Int)]++cx).drop 0).take (10+cx.length)
   rw[e,List.drop_zero,List.take_of_length_le (by rw[qcp];omega)]
def qgQ (Ω:Om):qe:=fun args=>match args with
 | [.roi .u8 bs]=>⟨∀ _:Unit,Byt bs/\bs.length=57,List Int × Nat,fun z=>z.1=qac bs/\z.1.length<=z.2,fun z =>.fr .u8 z.1 z.2⟩
 | _=>PR.none
theorem qtG:Ctr Tryz.prog T glob 70 (qgQ Om.real):=by
 refine qq T_ok qf qg (fun Ω=>[]) [] (fun Ω=>[]) [] qh qi qk ql Tryz.func70 (by rfl) (by kernel_rfl) Tryz.call70 ?_ ?_
 ·intro args;unfold qgQ;split
  ·exact qav ⟨trivial,trivial⟩ fun _=>qaM _
  ·exact PR.good_none
 ·intro P Ω hΩ hE hI hm args pr hs hp Q hQ
  unfold qgQ at hs
  split at hs<;>subst hs<;>try (exact hp.elim)
  rename_i bs
  obtain⟨hb,hl⟩:=hp ()
  refine⟨1000,?_⟩
  conv=>cbv
  constructor
  ·exact fun _=>(by subst hΩ;show(0+bs.length)*1<=140737488355328;omega)
  constructor
  ·exact fun _=>⟨trivial,trivial⟩
  intro cap hcap
  have hcap2:bs.length<=cap:=by have h:0+Ω.len bs<=cap:=hcap;subst hΩ;change 0+bs.length<=cap at h;omega
  conv=>cbv
  repeat (constructor;first|exact fun _=>(by subst hΩ;show(56:Nat)<bs.length;omega)|exact fun _=>(by subst hΩ;show(0:Nat)<bs.length;omega)|exact fun _=>(by subst hΩ;show 0+1<=bs.length;omega)|exact fun _=>(by subst hΩ;show(55:Nat)<bs.length;omega)|exact fun _=>(by subst hΩ;show 55+1<=(List.set bs _ _).length;rw[List.length_set];omega))
  constructor
  rotate_left
  ·intro h
   have h':False:=by (subst hΩ;have h2:=ne_of_beq_false h;exact h2 (show((bs.length:Nat):Int)=57 by omega));first|done|(subst hΩ;exact Bool.noConfusion (show true=false from h))
   contradiction
  intro _
  conv=>cbv
  repeat (constructor;first|exact fun _=>(by subst hΩ;show(56:Nat)<bs.length;omega)|exact fun _=>(by subst hΩ;show 56+1<=(List.set (List.set bs _ _) _ _).length;rw[List.length_set,List.length_set];omega))
  have g : ∀ i,i<57->0<=bs.getD i 0/\bs.getD i 0<256:=by
   intro i hi
   rw[List.getD_eq_getElem?_getD,List.getElem?_eq_getElem (by omega)]
   exact hb _ (List.getElem_mem _)
  have e:((bs.set 0 (binL .mul .u8 (binL .quo .u8 (bs.getD 0 0) 4) 4)).set 55 (binL .add .u8 (binL .rem .u8 ((bs.set 0 (binL .mul .u8 (binL .quo .u8 (bs.getD 0 0) 4) 4)).getD 55 0) 128) 128)).set 56 0=qac bs:=by
   have e55 : ∀ v:Int,(bs.set 0 v).getD 55 0=bs.getD 55 0:=fun v=>by
    rw[List.getD_eq_getElem?_getD,List.getD_eq_getElem?_getD,List.getElem?_set_ne (by decide)]
   rw[e55,qsg (g 0 (by decide)),qsh (g 55 (by decide))]
   rfl
  refine hQ (qac bs,cap) _ _ _ ⟨rfl,by show(qac bs).length<=cap;rw[qc3];exact hcap2⟩ ?_
  subst hΩ
  obtain⟨c3,hc3⟩ : ∃ c3,c3=((bs.set 0 (binL .mul .u8 (binL .quo .u8 (bs.getD 0 0) 4) 4)).set 55 (binL .add .u8 (binL .rem .u8 ((bs.set 0 (binL .mul .u8 (binL .quo .u8 (bs.getD 0 0) 4) 4)).getD 55 0) 128) 128)).set 56 0:=⟨_,rfl⟩
  rw[<- hc3]at e
  have hc3l:c3.length=57:=by rw[e,qc3];exact hl
  refine⟨rfl,rfl,?_,?_⟩
  ·refine Nat.le_trans (show 0+bs.length<=c3.length by omega) (Nat.le_of_eq ?_)
   rw[hc3]
   rfl
  ·refine(show qac bs=(c3.drop 0).take bs.length by rw[List.drop_zero,List.take_of_length_le (by omega)];exact e.symm).trans ?_
   rw[hc3]
   rfl
def qgR (Ω:Om):qe:=fun args=>match args with
 | [.roi .u8 bs]=>⟨∀ _:Unit,Byt bs/\bs.length<1000000,List Int × Nat,fun z=>z.1=codB (nsm (nV bs) baseP)/\z.1.length<=z.2,fun z =>.fr .u8 z.1 z.2⟩
 | _=>PR.none
theorem qtH:Ctr Tryz.prog T glob 25 (qgR Om.real):=by
 refine qq T_ok qf qg (fun Ω=>[(72,qgg Ω),(73,qgf Ω),(74,qgG Ω)]) [] (fun Ω=>[]) [] (qc qsc (qc qsb (qc qtg qh))) qi qk ql Tryz.func25 (by rfl) (by kernel_rfl) Tryz.call25 ?_ ?_
 ·intro args;unfold qgR;split
  ·exact qav ⟨trivial,trivial⟩ fun _=>qaM _
  ·exact PR.good_none
 ·intro P Ω hΩ hE hI hm args pr hs hp Q hQ
  unfold qgR at hs
  split at hs<;>subst hs<;>try (exact hp.elim)
  rename_i bs
  obtain⟨hb,hl⟩:=hp ()
  refine⟨1000,?_⟩
  conv=>cbv
  constructor;(first|exact fun(_:Unit)=>trivial|exact fun(_:Unit) (_:Unit)=>(by decide));intro _ _;conv=>cbv
  constructor
  ·exact fun _ _=>⟨(by subst hΩ;exact qfV),by omega,hb⟩
  intro _ _
  conv=>cbv
  constructor
  ·exact fun _=>trivial
  intro z hz
  obtain⟨yl,yc⟩:=z
  have hz:yl=codB (nsm (nV bs) baseP)/\yl.length<=yc:=by subst hΩ;exact hz
  conv=>cbv
  refine hQ (yl,yc) _ _ _ hz ?_
  subst hΩ
  exact⟨rfl,rfl,by show 0+yl.length<=yl.length;omega,by show yl=(yl.drop 0).take yl.length;rw[List.drop_zero,List.take_length]⟩
end Go.Sx.Tryz
end
section
set_option maxHeartbeats 4000000
namespace Go.Sx.Tryz
open Go.Proofs
set_option maxRecDepth 40000
def fewB (sd cx:List Int) (xss:List (List Int)):Bool:=xss.all (fun x=>decide (x.length<=200)) && (decide (sd.length<=60) && decide (cx.length<=300) && decide (xss.length<=6))
theorem qtJ {sd cx:List Int} {xss:List (List Int)} (h:fewB sd cx xss=true):(∀ xs ∈ xss,xs.length<=200)/\sd.length<=60/\cx.length<=300/\xss.length<=6:=by
 unfold fewB at h
 simp only[Bool.and_eq_true,List.all_eq_true,decide_eq_true_eq]at h
 exact⟨h.1,h.2.1.1,h.2.1.2,h.2.2⟩
theorem qtK {xss:List (List Int)} (h : ∀ k,k<xss.length->(xss.getD k []).length<=200):xss.all (fun x=>decide (x.length<=200))=true:=by
 rw[List.all_eq_true]
 intro x hx
 obtain⟨k,hk,rfl⟩:=List.mem_iff_getElem.1 hx
 have:=h k hk
 rw[List.getD_eq_getElem?_getD,List.getElem?_eq_getElem hk]at this
 exact decide_eq_true this
theorem qtL {xss:List (List Int)} {k:Nat} (hk:k<xss.length) (h : ¬ (xss.getD k []).length<=200):xss.all (fun x=>decide (x.length<=200))=false:=by
 rw[List.all_eq_false]
 refine⟨xss[k],List.getElem_mem hk,?_⟩
 rw[List.getD_eq_getElem?_getD,List.getElem?_eq_getElem hk]at h
 simpa using h
def qgS (Ω:Om):qe:=fun args=>match args with
 | [.agg [.int .i64 f,.roi .u8 sd,.roi .u8 cx,.rol .u8 xss]]=>⟨∀ _:Unit,xss.length<9223372036854775808/\sd.length<9223372036854775808/\cx.length<9223372036854775808,Unit,fun _=>True,fun _ =>.bs (Ω.hide _ fun _=>fewB sd cx xss)⟩
 | _=>PR.none
theorem qtM:Ctr Tryz.prog T glob 14 (qgS Om.real):=by
 refine qq T_ok qf qg (fun Ω=>[]) [] (fun Ω=>[]) [] qh qi qk ql Tryz.func14 (by rfl) (by kernel_rfl) Tryz.call14 ?_ ?_
 ·intro args;unfold qgS;split
  ·exact qo (by repeat' constructor) (fun _ _=>rfl) (by repeat' constructor)
  ·exact PR.good_none
 ·intro P Ω hΩ hE hI hm args pr hs hp Q hQ
  unfold qgS at hs
  split at hs<;>subst hs<;>try (exact hp.elim)
  rename_i f sd cx xss
  obtain⟨h1,h2,h3⟩:=hp ()
  obtain⟨L,hL⟩ : ∃ L,xss.length=L:=⟨_,rfl⟩
  have hL2:Ω.len2 xss=L:=by rw[hΩ];exact hL
  conv at hL2=>lhs;cbv
  refine⟨1000,?_⟩
  conv=>cbv
  refine qn hE hI hm (fun z:Nat=>(mkT 34 [(1,.ptr 0 (.l 0)),(2,.bl false),(3,.int .i64 z)],[(0,.agg [.int .i64 f,.roi .u8 sd,.roi .u8 cx,.rol .u8 xss])])) (fun z=>z<=L /\ ∀ k,k<z->(xss.getD k []).length<=200) (fun z=>L-z) 0 ⟨0,[],⟨Nat.zero_le _,fun k h=>absurd h (Nat.not_lt_zero _)⟩,Nat.zero_le _,?_⟩ fun z hz=>⟨1000,?_⟩
  ·conv=>cbv
   exact⟨rfl,trivial⟩
  obtain⟨hi,ha⟩:z<=L /\ ∀ k,k<z->(xss.getD k []).length<=200:=hz
  conv=>cbv
  rw[hL2]
  constructor
  ·intro hc
   have hlt:z<L:=by
    subst hΩ
    have h2:((z:Nat):Int)<((L:Nat):Int):=of_decide_eq_true hc
    omega
   obtain⟨bb,hbb⟩ : ∃ bb,xss.getD z []=bb:=⟨_,rfl⟩
   have hAt:Ω.at2 xss (Ω.toN (Int.ofNat z))=bb:=by rw[hΩ];exact hbb
   conv at hAt=>lhs;cbv
   obtain⟨z2,hz2⟩ : ∃ z2,Ω.bin .add .i64 (Int.ofNat z) 1=z2:=⟨_,rfl⟩
   have ez2:z2=((z+1:Nat):Int):=by
    rw[<- hz2,hΩ]
    show binL .add .i64 (z:Int) 1=_
    rw[qF (by omega) (by omega)];omega
   conv at hz2=>lhs;cbv
   conv=>cbv
   constructor
   ·exact fun _=>(by subst hΩ;show 0<=(z:Int)/\(z:Int)<((xss.length:Nat):Int);omega)
   constructor
   ·exact fun _=>(by subst hΩ;show z<xss.length;omega)
   rw[hAt]
   constructor
   ·intro hb2
    have hgt : ¬ (xss.getD z []).length<=200:=by
     rw[hbb]
     subst hΩ
     have h2:((bb.length:Nat):Int) > 200:=of_decide_eq_true hb2
     omega
    conv=>cbv
    refine hQ () _ _ _ trivial ?_
    subst hΩ
    show false=fewB sd cx xss
    unfold fewB
    rw[qtL (by omega) hgt,Bool.false_and]
   ·intro hb2
    have hle2:(xss.getD z []).length<=200:=by
     rw[hbb]
     subst hΩ
     have h2 : ¬ ((bb.length:Nat):Int) > 200:=of_decide_eq_false hb2
     omega
    conv=>cbv
    rw[hz2]
    refine⟨z+1,[],⟨by show z+1<=L;omega,fun k hk => ?_⟩,by show L-(z+1)<L-z;omega,Nat.zero_le _,?_⟩
    ·by_cases e:k=z
     ·rw[e];exact hle2
     ·exact ha k (by omega)
    conv=>cbv
    exact⟨ez2,trivial⟩
  ·intro hc
   have hzL:z=L:=by
    subst hΩ
    have h2 : ¬ ((z:Nat):Int)<((L:Nat):Int):=of_decide_eq_false hc
    omega
   have hall:xss.all (fun x=>decide (x.length<=200))=true:=qtK (by rw[hL,<- hzL];exact ha)
   have hfew:fewB sd cx xss=(decide (sd.length<=60) && decide (cx.length<=300) && decide (xss.length<=6)):=by
    unfold fewB
    rw[hall,Bool.true_and]
   conv=>cbv
   constructor
   ·intro q1
    have e1:sd.length<=60:=by
     subst hΩ
     have h2:((sd.length:Nat):Int)<=60:=of_decide_eq_true q1
     omega
    conv=>cbv
    constructor
    ·intro q2
     have e2:cx.length<=300:=by
      subst hΩ
      have h2:((cx.length:Nat):Int)<=300:=of_decide_eq_true q2
      omega
     conv=>cbv
     refine hQ () _ _ _ trivial ?_
     subst hΩ
     show decide (((xss.length:Nat):Int)<=6)=fewB sd cx xss
     rw[hfew,decide_eq_true e1,decide_eq_true e2,Bool.true_and,Bool.true_and]
     exact decide_eq_decide.2 (by omega)
    ·intro q2
     have e2 : ¬ cx.length<=300:=by
      subst hΩ
      have h2 : ¬ ((cx.length:Nat):Int)<=300:=of_decide_eq_false q2
      omega
     conv=>cbv
     refine hQ () _ _ _ trivial ?_
     subst hΩ
     show false=fewB sd cx xss
     rw[hfew,decide_eq_false e2,Bool.and_false,Bool.false_and]
   ·intro q1
    have e1 : ¬ sd.length<=60:=by
     subst hΩ
     have h2 : ¬ ((sd.length:Nat):Int)<=60:=of_decide_eq_false q1
     omega
    conv=>cbv
    refine hQ () _ _ _ trivial ?_
    subst hΩ
    show false=fewB sd cx xss
    rw[hfew,decide_eq_false e1,Bool.false_and,Bool.false_and]
theorem qtN:qdb .eql (strOfNums (domB 0 [])) ⟨#[83,105,103,69,100,52,52,56,0,0]⟩=true:=by decide +kernel
def qgT (Ω:Om):qe:=fun args=>match args with
 | []=>⟨True,Bool,fun b=>b=true,fun b =>.bs b⟩
 | _=>PR.none
theorem qtO:Ctr Tryz.prog T glob 15 (qgT Om.real):=by
 refine qq T_ok qf qg (fun Ω=>[(16,qet Ω)]) [] (fun Ω=>[]) [] (qc qnU qh) qi qk ql Tryz.func15 (by rfl) (by kernel_rfl) Tryz.call15 ?_ ?_
 ·intro args;unfold qgT;split
  ·exact qlJ trivial fun _=>⟨_,rfl⟩
  ·exact PR.good_none
 ·intro P Ω hΩ hE hI hm args pr hs hp Q hQ
  unfold qgT at hs
  split at hs<;>subst hs<;>try (exact hp.elim)
  refine⟨1000,?_⟩
  conv=>cbv
  constructor
  ·exact fun _ _=>(by decide:(0:Nat)<9223372036854775808)
  intro z hz
  obtain⟨er,l,c⟩:=z
  obtain⟨⟨h1,h2⟩,h3,h4⟩:(er=domE 0 []/\(er=0->l=domB 0 []))/\(er ≠ 0->l=[])/\l.length<=c:=hz
  have he:er=0:=h1
  have hl:=h2 he
  conv=>cbv
  constructor
  rotate_left
  ·intro h
   have h':False:=by (subst hΩ;have h2:=ne_of_beq_false h;exact h2 he);first|done|(subst hΩ;exact Bool.noConfusion (show true=false from h))
   contradiction
  intro _
  conv=>cbv
  constructor
  ·exact fun _=>(by subst hΩ;show 0+l.length<=l.length;omega)
  refine hQ true _ _ _ rfl ?_
  subst hΩ
  have e:qdb .eql (strOfNums ((l.drop 0).take l.length)) ⟨#[83,105,103,69,100,52,52,56,0,0]⟩=true:=by
   rw[List.drop_zero,List.take_length,hl]
   exact qtN
  exact e
end Go.Sx.Tryz
end
section
set_option maxHeartbeats 4000000
namespace Go.Sx.Tryz
open Go.Proofs
set_option maxRecDepth 40000
set_option pp.deepTerms true
set_option pp.maxSteps 1000000
def qgU (Ω:Om):qe:=fun args=>match args with
 | [.roi .u8 xs,.roi .u8 ys]=>⟨∀ _:Unit,xs.length<9223372036854775807/\ys.length<9223372036854775807,Unit,fun _=>True,fun _ =>.bs (Ω.hide _ fun _=>xs == ys)⟩
 | _=>PR.none
theorem qtP:Ctr Tryz.prog T glob 18 (qgU Om.real):=by
 refine qq T_ok qf qg (fun Ω=>[]) [] (fun Ω=>[]) [] qh qi qk ql Tryz.func18 (by rfl) (by kernel_rfl) Tryz.call18 ?_ ?_
 ·intro args;unfold qgU;split
  ·exact qo (by repeat' constructor) (fun _ _=>rfl) (by repeat' constructor)
  ·exact PR.good_none
 ·intro P Ω hΩ hE hI hm args pr hs hp Q hQ
  unfold qgU at hs
  split at hs<;>subst hs<;>try (exact hp.elim)
  rename_i xs ys
  obtain⟨lx,ly⟩:=hp ()
  refine⟨1000,?_⟩
  conv=>cbv
  constructor
  ·intro hb
   rw[hΩ]at hb;simp (disch:=omega) only[Om.real,qb,decide_eq_true_eq,decide_eq_false_iff_not]at hb
   conv=>cbv
   refine hQ () _ _ _ trivial ?_
   subst hΩ
   show false=(xs == ys)
   cases h3:xs == ys with
   | false=>rfl
   | true=>exact absurd (congrArg List.length (eq_of_beq h3)) hb
  ·intro hb
   rw[hΩ]at hb;simp (disch:=omega) only[Om.real,qb,decide_eq_true_eq,decide_eq_false_iff_not]at hb
   have hlen:xs.length=ys.length:=by omega
   conv=>cbv
   refine qn hE hI hm (fun i:Nat=>(mkT 26 [(0,.roi .u8 xs),(1,.roi .u8 ys),(4,.bl false),(5,.int .i64 i)],[])) (fun i=>i<=xs.length/\xs.take i=ys.take i) (fun i=>xs.length-i) 0 ⟨0,[],⟨Nat.zero_le _,rfl⟩,Nat.le_refl _,by cbv⟩ fun i hi=>⟨1000,?_⟩
   conv=>cbv
   constructor
   ·intro hc
    rw[hΩ]at hc;simp (disch:=omega) only[Om.real,qb,decide_eq_true_eq,decide_eq_false_iff_not]at hc
    conv=>cbv
    repeat (refine⟨by ((try intro _);(try subst hΩ);simp (disch:=omega) only[Om.real,qb,SN.v];omega),?_⟩)
    constructor
    ·intro hne
     cbv
     refine hQ () _ _ _ trivial ?_
     subst hΩ
     have h1:(xs.getD i 0 != ys.getD i 0)=true:=hne
     show false=(xs == ys)
     cases h3:xs == ys with
     | false=>rfl
     | true=>rw[eq_of_beq h3]at h1;simp at h1
    ·intro hne
     cbv
     refine⟨i+1,[],⟨hc,?_⟩,by omega,Nat.zero_le _,?_⟩
     ·subst hΩ
      have h1:(xs.getD i 0 != ys.getD i 0)=false:=hne
      rw[bne_eq_false_iff_eq]at h1
      rw[List.take_succ_eq_append_getElem hc,List.take_succ_eq_append_getElem (by omega),hi.2]
      have e1:xs.getD i 0=xs[i]:=by simp[List.getD,hc]
      have e2:ys.getD i 0=ys[i]'(by omega):=by simp[List.getD,show i<ys.length by omega]
      rw[<- e1,<- e2,h1]
     ·conv=>cbv
      subst hΩ
      simp (disch:=omega) only[Om.real,qb]
   ·intro hc
    rw[hΩ]at hc;simp (disch:=omega) only[Om.real,qb,decide_eq_true_eq,decide_eq_false_iff_not]at hc
    conv=>cbv
    refine hQ () _ _ _ trivial ?_
    have e:i=xs.length:=by have:=hi.1;omega
    have h2:=hi.2
    rw[e,List.take_length,hlen,List.take_length]at h2
    subst hΩ
    show true=(xs == ys)
    rw[h2]
    simp
end Go.Sx.Tryz
end
