/-
  Part of the proof of a statement: the means.
-/
import Derived.Test.YtpnebmmjpapopaaGreatDoorX81
import Derived.Test.YtpnebmmjpapopaaGreatDoorX19
import Derived.Test.YtpnebmmjpapopaaGreatDoorX10
set_option linter.unusedSectionVars false
set_option linter.unusedVariables false
set_option linter.unusedSimpArgs false
set_option linter.deprecated false
section
set_option maxHeartbeats 4000000
namespace Go.Sx.Tryz
open Go.Proofs
set_option maxRecDepth 40000
def qhm (Ω:Om):qd:=fun args=>match args with
 | [.ab (.fe a),.rop (.ab (.fe o)) (.l 0)]=>⟨True,Unit,fun _=>True,fun _ =>.ab (.fe (Ω.hide _ fun _=>a+o))⟩
 | _=>PR.none
theorem quN:Ctr Tryz.prog T glob 77 (qhm Om.real):=by
 refine qo T_ok qf qg (fun Ω=>[(78,qb4 Ω)]) [] (fun Ω=>[]) [] (qb qdI qh) qi qk ql Tryz.func77 (by rfl) (by kernel_rfl) Tryz.call77 ?_ ?_
 ·intro args;unfold qhm;split
  ·exact qt (by repeat' constructor) (fun _ _=>rfl) (by repeat' constructor)
  ·exact PR.good_none
 ·intro P Ω hΩ hE hI hm args pr hs hp Q hQ
  unfold qhm at hs
  split at hs<;>subst hs<;>try (exact hp.elim)
  rename_i a o
  refine⟨1000,?_⟩
  conv=>cbv
  repeat (constructor;(first|exact fun(_:Unit)=>trivial|exact fun(_:Unit) (_:Unit)=>(by decide));intro _ _;conv=>cbv)
  exact hQ () _ _ _ trivial rfl
def qhn (Ω:Om):qd:=fun args=>match args with
 | [.ab (.fe a),.rop (.ab (.fe o)) (.l 0)]=>⟨True,Unit,fun _=>True,fun _ =>.ab (.fe (Ω.hide _ fun _=>a-o))⟩
 | _=>PR.none
theorem quO:Ctr Tryz.prog T glob 79 (qhn Om.real):=by
 refine qo T_ok qf qg (fun Ω=>[(80,qb5 Ω)]) [] (fun Ω=>[]) [] (qb qdJ qh) qi qk ql Tryz.func79 (by rfl) (by kernel_rfl) Tryz.call79 ?_ ?_
 ·intro args;unfold qhn;split
  ·exact qt (by repeat' constructor) (fun _ _=>rfl) (by repeat' constructor)
  ·exact PR.good_none
 ·intro P Ω hΩ hE hI hm args pr hs hp Q hQ
  unfold qhn at hs
  split at hs<;>subst hs<;>try (exact hp.elim)
  rename_i a o
  refine⟨1000,?_⟩
  conv=>cbv
  repeat (constructor;(first|exact fun(_:Unit)=>trivial|exact fun(_:Unit) (_:Unit)=>(by decide));intro _ _;conv=>cbv)
  exact hQ () _ _ _ trivial rfl
def qho (Ω:Om):qd:=fun args=>match args with
 | [.ab (.fe a),.ab (.fe b)]=>⟨True,Unit,fun _=>True,fun _ =>.ab (.fe (Ω.hide _ fun _=>a*finv b))⟩
 | _=>PR.none
theorem quP:Ctr Tryz.prog T glob 86 (qho Om.real):=by
 refine qo T_ok qf qg (fun Ω=>[(84,qaw Ω),(87,qdO Ω)]) [] (fun Ω=>[]) [] (qb qaI (qb qjW qh)) qi qk ql Tryz.func86 (by rfl) (by kernel_rfl) Tryz.call86 ?_ ?_
 ·intro args;unfold qho;split
  ·exact qt (by repeat' constructor) (fun _ _=>rfl) (by repeat' constructor)
  ·exact PR.good_none
 ·intro P Ω hΩ hE hI hm args pr hs hp Q hQ
  unfold qho at hs
  split at hs<;>subst hs<;>try (exact hp.elim)
  rename_i a b
  refine⟨1000,?_⟩
  conv=>cbv
  repeat (constructor;(first|exact fun(_:Unit)=>trivial|exact fun(_:Unit) (_:Unit)=>(by decide));intro _ _;conv=>cbv)
  refine hQ () _ _ _ trivial ?_
  subst hΩ
  rfl
def qhp (Ω:Om):qd:=fun args=>match args with
 | [.roa (.fe xs)]=>⟨∀ _:Unit,xs.length<9223372036854775808,Unit,fun _=>True,fun _ =>.ab (.fe (Ω.hide _ fun _=>qV xs))⟩
 | _=>PR.none
theorem quQ:Ctr Tryz.prog T glob 88 (qhp Om.real):=by
 refine qo T_ok qf qg (fun Ω=>[(84,qaw Ω),(76,qbE Ω)]) [] (fun Ω=>[]) [] (qb qaI (qb qcw qh)) qi qk ql Tryz.func88 (by rfl) (by kernel_rfl) Tryz.call88 ?_ ?_
 ·intro args;unfold qhp;split
  ·exact qt (by repeat' constructor) (fun _ _=>rfl) (by repeat' constructor)
  ·exact PR.good_none
 ·intro P Ω hΩ hE hI hm args pr hs hp Q hQ
  unfold qhp at hs
  split at hs<;>subst hs<;>try (exact hp.elim)
  rename_i xs
  have hx:=hp ()
  refine⟨1000,?_⟩
  conv=>cbv
  repeat (constructor;(first|exact fun(_:Unit)=>trivial|exact fun(_:Unit) (_:Unit)=>(by decide));intro _ _;conv=>cbv)
  obtain⟨L,hL⟩ : ∃ L,L=xs.length:=⟨_,rfl⟩
  obtain⟨one,hone⟩ : ∃ one,one=fI 1:=⟨_,rfl⟩
  have hlo:Ω.hide Nat (fun _=>xs.length)=L:=by subst hΩ;exact hL.symm
  rw[<- hL]at hx
  refine qr hE hI hm (fun z:Nat × Fp=>(mkT 18 [(2,.ptr 0 (.l 0)),(3,.ptr 16 (.l 0)),(7,.roa (.fe xs)),(8,.int .i64 L),(9,.int .i64 z.1)],[(16,.ab (.fe z.2)),(0,.agg [.row .u64 8 [0,0,0,0,0,0,0,0]])])) (fun z=>z.1<=L/\z.2=qV (xs.take z.1)) (fun z=>L-z.1) 0 ⟨(0,one),[],⟨Nat.zero_le _,hone⟩,Nat.le_refl _,?_⟩ fun z hz=>⟨1000,?_⟩
  ·conv=>cbv
   subst hΩ
   exact⟨congrArg Int.ofNat hL.symm,rfl,congrArg Pay.fe hone.symm,trivial⟩
  obtain⟨i,y⟩:=z
  obtain⟨hi,hy⟩:i<=L/\y=qV (xs.take i):=hz
  conv=>cbv
  constructor
  ·intro hc
   cbv
   rw[hΩ]at hc;simp (disch:=omega) only[Om.real,qc,decide_eq_true_eq,decide_eq_false_iff_not]at hc
   constructor
   ·intro _
    refine⟨Int.natCast_nonneg _,?_⟩
    show(i:Int)<((Ω.hide Nat (fun _=>xs.length):Nat):Int)
    rw[hlo];omega
   constructor
   ·intro _
    subst hΩ
    show i<xs.length;omega
   repeat (constructor;(first|exact fun(_:Unit)=>trivial|exact fun(_:Unit) (_:Unit)=>(by decide));intro _ _;conv=>cbv)
   obtain⟨y2,hy2⟩ : ∃ y2,y2=y*xs.getD i 0:=⟨_,rfl⟩
   refine⟨(i+1,y2),[],⟨hc,?_⟩,by simp only;omega,Nat.zero_le _,?_⟩
   ·show y2=qV (xs.take (i+1))
    rw[hy2,hy]
    exact qnX xs i (by omega)
   conv=>cbv
   subst hΩ
   simp (disch:=omega) only[Om.real,qc]
   exact⟨trivial,⟨by rw[hy2],trivial⟩⟩
  ·intro hc
   cbv
   rw[hΩ]at hc;simp (disch:=omega) only[Om.real,qc,decide_eq_true_eq,decide_eq_false_iff_not]at hc
   have e:i=xs.length:=by omega
   refine hQ () _ _ _ trivial ?_
   subst hΩ
   show Pay.fe y=Pay.fe (qV xs)
   rw[hy,e,List.take_length]
def qhq (Ω:Om):qd:=fun args=>match args with
 | [.roi .u8 bs]=>⟨∀ _:Unit,(∀ a ∈ bs,0<=a/\a<256)/\bs.length<9223372036854775808,Bool,fun z=>z=(bs.length == 56),fun z=>match z with|true =>.tup [.ab (.fe (Ω.hide _ fun _=>eS (fI (qe bs)))),.ab (.fe (Ω.hide _ fun _=>eX (fI (qe bs)))),.ab (.fe (Ω.hide _ fun _=>eY (fI (qe bs)))),.lit .i64 0]|false =>.tup [.ab (.fe (Ω.hide _ fun _=>fI 0)),.ab (.fe (Ω.hide _ fun _=>fI 0)),.ab (.fe (Ω.hide _ fun _=>fI 0)),.lit .i64 11]⟩
 | _=>PR.none
theorem quR:Ctr Tryz.prog T glob 27 (qhq Om.real):=by
 refine qo T_ok qf qg (fun Ω=>[(75,qgK Ω),(76,qbE Ω),(82,qbP Ω),(81,qc7 Ω),(79,qhn Ω),(83,qcx Ω),(77,qhm Ω),(80,qb5 Ω),(84,qaw Ω),(85,qeX Ω),(88,qhp Ω),(78,qb4 Ω),(86,qho Ω),(89,qda Ω)]) [] (fun Ω=>[]) [] (qb qsu (qb qcw (qb qc9 (qb qgM (qb quO (qb qeV (qb quN (qb qdJ (qb qaI (qb qnT (qb quQ (qb qdI (qb quP (qb qgS qh)))))))))))))) qi qk ql Tryz.func27 (by rfl) (by kernel_rfl) Tryz.call27 ?_ ?_
 ·intro args;unfold qhq;split
  ·exact qba ⟨fun x=>by cases x<;>repeat' (first|exact trivial|constructor),fun E x b=>by cases x<;>rfl⟩ (by repeat' (first|exact trivial|constructor)) (fun _=>⟨_,rfl⟩)
  ·exact PR.good_none
 ·intro P Ω hΩ hE hI hm args pr hs hp Q hQ
  unfold qhq at hs
  split at hs<;>subst hs<;>try (exact hp.elim)
  rename_i bs
  obtain⟨hb,hl⟩:=hp ()
  obtain⟨t,ht⟩ : ∃ t,t=fI (qe bs):=⟨_,rfl⟩
  refine⟨1000,?_⟩
  conv=>cbv
  constructor
  ·exact fun _ _=>hb
  intro z hz
  cases z with
  | false =>
    conv=>cbv
    repeat (constructor;(first|exact fun(_:Unit)=>trivial|exact fun(_:Unit) (_:Unit)=>(by decide));intro _ _;conv=>cbv)
    refine hQ false _ _ _ hz ?_
    subst hΩ
    exact⟨⟨rfl,rfl,rfl,⟨rfl,rfl⟩,trivial⟩,rfl,rfl⟩
  | true =>
    conv=>cbv
    repeat (first|(constructor;(first|exact fun(_:Unit)=>trivial|exact fun(_:Unit) (_:Unit)=>(by decide));intro _ _;conv=>cbv)|(refine⟨fun _=>⟨trivial,trivial⟩,fun _ _=>(Nat.le_of_ble_eq_true rfl),?_⟩;intro _ _;conv=>cbv))
    constructor
    · intro hc
      have hIs:eI t=false:=by
        rw[ht]
        subst hΩ
        have h2:(!(eI (fI (qe bs))))=true:=hc
        rwa[Bool.not_eq_true']at h2
      conv=>cbv
      repeat (first|(constructor;(first|exact fun(_:Unit)=>trivial|exact fun(_:Unit) (_:Unit)=>(by decide));intro _ _;conv=>cbv)|(refine⟨fun _=>⟨trivial,trivial⟩,fun _ _=>(Nat.le_of_ble_eq_true rfl),?_⟩;intro _ _;conv=>cbv))
      refine hQ true _ _ _ hz ?_
      subst hΩ
      refine⟨⟨?_,?_,?_,⟨rfl,rfl⟩,trivial⟩,rfl,rfl⟩
      · show Pay.fe (fI (qe bs)*eQ (fI (qe bs))*(eR (fI (qe bs))+fI 1))=Pay.fe (eS (fI (qe bs)))
        rw[<- ht,eS_f hIs]
      · show Pay.fe (fabs (fI (qe bs)*eQ (fI (qe bs))*(eR (fI (qe bs))+fI 1))*fI 2*finv (fI (qe bs)*eQ (fI (qe bs))*(eR (fI (qe bs))+fI 1)*(fI (qe bs)*eQ (fI (qe bs))*(eR (fI (qe bs))+fI 1))+fI 1))=Pay.fe (eX (fI (qe bs)))
        rw[<- ht,<- eS_f hIs]
        rfl
      · show Pay.fe ((fI (qe bs)*eQ (fI (qe bs))*(eR (fI (qe bs))+fI 1)*(fI (qe bs)*eQ (fI (qe bs))*(eR (fI (qe bs))+fI 1))-fI 1)*finv (qV [fI (qe bs)*eQ (fI (qe bs)),fI (qe bs)*eQ (fI (qe bs))*(eR (fI (qe bs))+fI 1),eR (fI (qe bs))-fI 1]*fI 78163 + -fI 1))=Pay.fe (eY (fI (qe bs)))
        rw[<- ht,<- eS_f hIs,eY_f hIs]
    · intro hc
      have hIs:eI t=true:=by
        rw[ht]
        subst hΩ
        have h2:(!(eI (fI (qe bs))))=false:=hc
        rwa[Bool.not_eq_false']at h2
      conv=>cbv
      repeat (first|(constructor;(first|exact fun(_:Unit)=>trivial|exact fun(_:Unit) (_:Unit)=>(by decide));intro _ _;conv=>cbv)|(refine⟨fun _=>⟨trivial,trivial⟩,fun _ _=>(Nat.le_of_ble_eq_true rfl),?_⟩;intro _ _;conv=>cbv))
      refine hQ true _ _ _ hz ?_
      subst hΩ
      refine⟨⟨?_,?_,?_,⟨rfl,rfl⟩,trivial⟩,rfl,rfl⟩
      · show Pay.fe (eQ (fI (qe bs))*(eR (fI (qe bs))+fI 1))=Pay.fe (eS (fI (qe bs)))
        rw[<- ht,eS_t hIs]
      · show Pay.fe (fabs (eQ (fI (qe bs))*(eR (fI (qe bs))+fI 1))*fI 2*finv (eQ (fI (qe bs))*(eR (fI (qe bs))+fI 1)*(eQ (fI (qe bs))*(eR (fI (qe bs))+fI 1))+fI 1))=Pay.fe (eX (fI (qe bs)))
        rw[<- ht,<- eS_t hIs]
        rfl
      · show Pay.fe ((eQ (fI (qe bs))*(eR (fI (qe bs))+fI 1)*(eQ (fI (qe bs))*(eR (fI (qe bs))+fI 1))-fI 1)*finv (qV [eQ (fI (qe bs)),eQ (fI (qe bs))*(eR (fI (qe bs))+fI 1),eR (fI (qe bs))-fI 1]*fI 78163+fI 1))=Pay.fe (eY (fI (qe bs)))
        rw[<- ht,<- eS_t hIs,eY_t hIs]
end Go.Sx.Tryz
end
section
set_option maxHeartbeats 4000000
namespace Go.Sx.Tryz
open Go.Proofs
set_option maxRecDepth 40000
def qit (Ω:Om):qd:=fun args=>match args with
 | [.ab (.re x),.ab (.re y),.ab (.re z)]=>⟨True,Unit,fun _=>True,fun _ =>.ab (.re (Ω.hide _ fun _=>x*(y*z)))⟩
 | _=>PR.none
theorem qxe:Ctr Tryz.prog T glob 96 (qit Om.real):=by
 refine qo T_ok qf qg (fun Ω=>[(91,qbr Ω)]) [] (fun Ω=>[]) [] (qb qcb qh) qi qk ql Tryz.func96 (by rfl) (by kernel_rfl) Tryz.call96 ?_ ?_
 ·intro args;unfold qit;split
  ·exact qt (by repeat' constructor) (fun _ _=>rfl) (by repeat' constructor)
  ·exact PR.good_none
 ·intro P Ω hΩ hE hI hm args pr hs hp Q hQ
  unfold qit at hs
  split at hs<;>subst hs<;>try (exact hp.elim)
  rename_i x y z
  refine⟨1000,?_⟩
  conv=>cbv
  repeat (constructor;(first|exact fun(_:Unit)=>trivial|exact fun(_:Unit) (_:Unit)=>(by decide));intro _ _;conv=>cbv)
  refine hQ () _ _ _ trivial ?_
  subst hΩ
  rfl
def qiu (Ω:Om):qd:=fun args=>match args with
 | [.roi .u8 bs]=>⟨∀ _:Unit,bs.length=56/\(∀ a ∈ bs,0<=a/\a<256),Unit,fun _=>True,fun _ =>.tup [.ab (.re (Ω.hide _ fun _=>eS (fI (qe bs)))),.ab (.re (Ω.hide _ fun _=>eX (fI (qe bs)))),.ab (.re (Ω.hide _ fun _=>eY (fI (qe bs))))]⟩
 | _=>PR.none
theorem qxf:Ctr Tryz.prog T glob 28 (qiu Om.real):=by
 refine qo T_ok qf qg (fun Ω=>[(90,qcc Ω),(31,qid Ω),(34,qcK Ω),(91,qbr Ω),(92,qd3 Ω),(93,qdl Ω),(94,qfA Ω),(96,qit Ω),(95,qd7 Ω),(97,qdm Ω)]) [] (fun Ω=>[]) [] (qb qd4 (qb qwR (qb qfv (qb qcb (qb qkT (qb qib (qb qqc (qb qxe (qb qkW (qb qij qh)))))))))) qi qk ql Tryz.func28 (by rfl) (by kernel_rfl) Tryz.call28 ?_ ?_
 ·intro args;unfold qiu;split
  ·exact qt (by repeat' constructor) (fun _ _=>rfl) (by repeat' constructor)
  ·exact PR.good_none
 ·intro P Ω hΩ hE hI hm args pr hs hp Q hQ
  unfold qiu at hs
  split at hs<;>subst hs<;>try (exact hp.elim)
  rename_i bs
  obtain⟨hl,hb⟩:=hp ()
  obtain⟨t,ht⟩ : ∃ t,t=fI (qe bs):=⟨_,rfl⟩
  refine⟨1000,?_⟩
  conv=>cbv
  repeat (constructor;(first|exact fun(_:Unit)=>trivial|exact fun(_:Unit) (_:Unit)=>(by decide));intro _ _;conv=>cbv)
  constructor
  ·exact fun(_:Unit) (_:Unit)=>⟨hl,hb⟩
  intro _ _
  conv=>cbv
  repeat (constructor;(first|exact fun(_:Unit)=>trivial|exact fun(_:Unit) (_:Unit)=>(by decide));intro _ _;conv=>cbv)
  constructor
  ·intro hc
   have hIs:eI t=false:=by
    rw[ht,<- eI_m]
    subst hΩ
    have h2:(!(eIv (eM (fI (qe bs)))))=true:=hc
    rwa[Bool.not_eq_true']at h2
   conv=>cbv
   repeat (constructor;(first|exact fun(_:Unit)=>trivial|exact fun(_:Unit) (_:Unit)=>(by decide));intro _ _;conv=>cbv)
   refine hQ () _ _ _ trivial ?_
   subst hΩ
   refine⟨⟨?_,?_,?_,trivial⟩,rfl,rfl⟩
   ·show Pay.re ((fI (qe bs)*qI (fI 78163) (eM (fI (qe bs))))*(eR (fI (qe bs))+fI 1))=Pay.re (eS (fI (qe bs)))
    rw[<- ht,eQ_m,eS_f hIs]
   ·show Pay.re ((fabs ((fI (qe bs)*qI (fI 78163) (eM (fI (qe bs))))*(eR (fI (qe bs))+fI 1))+fabs ((fI (qe bs)*qI (fI 78163) (eM (fI (qe bs))))*(eR (fI (qe bs))+fI 1)))*finv ((fI (qe bs)*qI (fI 78163) (eM (fI (qe bs))))*(eR (fI (qe bs))+fI 1)*((fI (qe bs)*qI (fI 78163) (eM (fI (qe bs))))*(eR (fI (qe bs))+fI 1))+fI 1))=Pay.re (eX (fI (qe bs)))
    rw[<- ht,eQ_m,<- eS_f hIs,qoR]
    rfl
   ·show Pay.re (((fI (qe bs)*qI (fI 78163) (eM (fI (qe bs))))*(eR (fI (qe bs))+fI 1)*((fI (qe bs)*qI (fI 78163) (eM (fI (qe bs))))*(eR (fI (qe bs))+fI 1))-fI 1)*finv (fI 78163*((fI (qe bs)*qI (fI 78163) (eM (fI (qe bs))))*((fI (qe bs)*qI (fI 78163) (eM (fI (qe bs))))*(eR (fI (qe bs))+fI 1))*(eR (fI (qe bs))-fI 1)) + -fI 1))=Pay.re (eY (fI (qe bs)))
    rw[<- ht,eQ_m,<- eS_f hIs,qoS,eY_f hIs]
  ·intro hc
   have hIs:eI t=true:=by
    rw[ht,<- eI_m]
    subst hΩ
    have h2:(!(eIv (eM (fI (qe bs)))))=false:=hc
    rwa[Bool.not_eq_false']at h2
   conv=>cbv
   repeat (constructor;(first|exact fun(_:Unit)=>trivial|exact fun(_:Unit) (_:Unit)=>(by decide));intro _ _;conv=>cbv)
   refine hQ () _ _ _ trivial ?_
   subst hΩ
   refine⟨⟨?_,?_,?_,trivial⟩,rfl,rfl⟩
   ·show Pay.re (qI (fI 78163) (eM (fI (qe bs)))*(eR (fI (qe bs))+fI 1))=Pay.re (eS (fI (qe bs)))
    rw[<- ht,eQ_m,eS_t hIs]
   ·show Pay.re ((fabs (qI (fI 78163) (eM (fI (qe bs)))*(eR (fI (qe bs))+fI 1))+fabs (qI (fI 78163) (eM (fI (qe bs)))*(eR (fI (qe bs))+fI 1)))*finv (qI (fI 78163) (eM (fI (qe bs)))*(eR (fI (qe bs))+fI 1)*(qI (fI 78163) (eM (fI (qe bs)))*(eR (fI (qe bs))+fI 1))+fI 1))=Pay.re (eX (fI (qe bs)))
    rw[<- ht,eQ_m,<- eS_t hIs,qoR]
    rfl
   ·show Pay.re ((qI (fI 78163) (eM (fI (qe bs)))*(eR (fI (qe bs))+fI 1)*(qI (fI 78163) (eM (fI (qe bs)))*(eR (fI (qe bs))+fI 1))-fI 1)*finv (fI 78163*(qI (fI 78163) (eM (fI (qe bs)))*(qI (fI 78163) (eM (fI (qe bs)))*(eR (fI (qe bs))+fI 1))*(eR (fI (qe bs))-fI 1))+fI 1))=Pay.re (eY (fI (qe bs)))
    rw[<- ht,eQ_m,<- eS_t hIs,qoS,eY_t hIs]
end Go.Sx.Tryz
end
