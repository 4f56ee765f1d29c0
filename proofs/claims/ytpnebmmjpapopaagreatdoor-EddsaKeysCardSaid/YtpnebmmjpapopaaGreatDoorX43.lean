/-
  Part of the proof of a statement: the means.
-/
import Derived.Test.YtpnebmmjpapopaaGreatDoorX42
set_option linter.unusedSectionVars false
set_option linter.unusedVariables false
set_option linter.unusedSimpArgs false
set_option linter.deprecated false
section
set_option maxHeartbeats 4000000
namespace Go.Sx.Tryz
open Go.Proofs
set_option maxRecDepth 40000
theorem qtQ {f:Int} {cx:List Int} (h:domE f cx=0):(f=0\/f=1)/\cx.length<=255:=by
 unfold domE at h
 split at h
 ·rename_i hf
  split at h
  ·exact absurd h (by decide)
  ·exact⟨hf,by omega⟩
 ·exact absurd h (by decide)
def qi7 (Ω:Om):qe:=fun args=>match args with
 | [.agg [.int .i64 f,.roi .u8 sd,.roi .u8 cx,.rol .u8 xss]]=>⟨∀ _:Unit,(Byt sd/\Byt cx)/\xss.length<9223372036854775808/\sd.length<9223372036854775808/\cx.length<9223372036854775808,Bool,fun b=>b=true,fun b =>.bs b⟩
 | _=>PR.none
noncomputable def qtR:List (FuncId × Func):=[(20,Tryz.f20),(22,Tryz.f22),(23,Tryz.f23),(24,Tryz.f24),(21,Tryz.f21)]
theorem c_chicorylaw17_EddsaKeys:Ctr Tryz.prog T glob 3 (qi7 Om.real):=by
 refine qq T_ok qf qg (fun Ω=>[(14,qgS Ω),(15,qgT Ω),(16,qet Ω),(17,qgO Ω),(18,qgU Ω),(19,qgP Ω),(66,qi6 Ω),(67,qgh Ω),(68,qgM Ω),(59,qgK Ω),(69,qnS Ω),(70,qgQ Ω),(71,qei Ω),(25,qgR Ω)]) qtR (fun Ω=>[]) [] (qc qtM (qc qtO (qc qnU (qc qtE (qc qtP (qc qtF (qc qtA (qc qsk (qc qty (qc qts (qc qtB (qc qtG (qc qmJ (qc qtH qh)))))))))))))) (qE Tryz.call20 Tryz.func20 (by kernel_rfl) (qE Tryz.call22 Tryz.func22 (by kernel_rfl) (qE Tryz.call23 Tryz.func23 (by kernel_rfl) (qE Tryz.call24 Tryz.func24 (by kernel_rfl) (qE Tryz.call21 Tryz.func21 (by kernel_rfl) qi))))) qk ql Tryz.func3 (by rfl) (by kernel_rfl) Tryz.call3 ?_ ?_
 ·intro args;unfold qi7;split
  ·exact qlJ ⟨⟨trivial,trivial,trivial,trivial,trivial⟩,trivial⟩ fun _=>⟨_,rfl⟩
  ·exact PR.good_none
 ·intro P Ω hΩ hE hI hm args pr hs hp Q hQ
  unfold qi7 at hs
  split at hs<;>subst hs<;>try (exact hp.elim)
  rename_i f sd cx xss
  obtain⟨⟨bs,bc⟩,h1,h2,h3⟩:=hp ()
  refine⟨1000,?_⟩
  conv=>cbv
  constructor
  ·exact fun _ _=>⟨h1,h2,h3⟩
  intro _ _
  conv=>cbv
  constructor
  ·intro hf
   conv=>cbv
   constructor
   ·exact fun(_:Unit)=>trivial
   intro w hw
   conv=>cbv
   refine hQ _ _ _ _ ?_ rfl
   exact hw
  intro hf
  have hfw:fewB sd cx xss=true:=by
   subst hΩ
   have h4:(!fewB sd cx xss)=false:=hf
   simpa using h4
  obtain⟨hx,hs60,hc300,hx6⟩:=qtJ hfw
  conv=>cbv
  constructor
  ·exact fun _ _=>h3
  intro z hz
  obtain⟨er,dl,dc⟩:=z
  obtain⟨⟨he,hdl⟩,hdn,hdc⟩:(er=domE f cx/\(er=0->dl=domB f cx))/\(er ≠ 0->dl=[])/\dl.length<=dc:=hz
  conv=>cbv
  constructor
  ·exact fun _ _=>h3
  intro _ _
  conv=>cbv
  constructor
  ·intro h
   have h':False:=by (subst hΩ;have h4:(er != domE f cx)=true:=h;rw[he]at h4;simp at h4);first|done|(subst hΩ;exact Bool.noConfusion (show false=true from h))
   contradiction
  intro _
  conv=>cbv
  constructor
  ·intro hd0
   have hd:domE f cx=0:=by subst hΩ;exact eq_of_beq hd0
   obtain⟨hf1,hc255⟩:=qtQ hd
   have hdl2:=hdl (by rw[he,hd])
   conv=>cbv
   constructor
   ·exact fun _ _=>⟨hf1,hc255⟩
   intro u hu
   obtain⟨ul,uc⟩:=u
   have hu:ul=domB f cx/\ul.length<=uc:=hu
   have hdl3:dl.length<1000000:=by rw[hdl2,qcp];omega
   have hul3:ul.length<1000000:=by rw[hu.1,qcp];omega
   conv=>cbv
   constructor
   ·exact fun _=>⟨(by subst hΩ;show 0+dl.length<=dl.length;omega),(by subst hΩ;show 0+ul.length<=ul.length;omega),trivial⟩
   constructor
   ·exact fun _ _=>(by subst hΩ;show((dl.drop 0).take dl.length).length<9223372036854775807/\((ul.drop 0).take ul.length).length<9223372036854775807;rw[List.drop_zero,List.take_length,List.drop_zero,List.take_length];omega)
   intro _ _
   conv=>cbv
   have q3:((dl.drop 0).take dl.length == (ul.drop 0).take ul.length)=true:=by
    rw[List.drop_zero,List.take_length,List.drop_zero,List.take_length,hdl2,hu.1]
    exact beq_self_eq_true _
   constructor
   ·intro h
    have h':False:=by (subst hΩ;have h5:(!((dl.drop 0).take dl.length == (ul.drop 0).take ul.length))=true:=h;rw[q3]at h5;exact Bool.noConfusion h5);first|done|(subst hΩ;exact Bool.noConfusion (show false=true from h))
    contradiction
   intro _
   conv=>cbv
   constructor
   ·intro h
    have h':False:=by (subst hΩ;have h4:(domE f cx != 0)=true:=h;rw[hd]at h4;exact absurd h4 (by decide));first|done|(subst hΩ;exact Bool.noConfusion (show false=true from h))
    contradiction
   intro _
   conv=>cbv
   constructor
   ·intro h57
    have hne:sd.length ≠ 57:=by
     subst hΩ
     have h4:(((sd.length:Nat):Int) != 57)=true:=h57
     intro e
     rw[e]at h4
     exact absurd h4 (by decide)
    conv=>cbv
    constructor
    rotate_left
    ·intro h
     have h':False:=by (subst hΩ;have h4:(((sd.length:Nat):Int) != 57)=false:=h;simp at h4;omega);first|done|(subst hΩ;exact Bool.noConfusion (show true=false from h))
     contradiction
    intro _
    conv=>cbv
    constructor
    ·exact fun(_:Unit)=>trivial
    intro w hw
    conv=>cbv
    refine hQ _ _ _ _ ?_ rfl
    exact hw
   intro h57
   have hl57:sd.length=57:=by
    subst hΩ
    have h4:(((sd.length:Nat):Int) != 57)=false:=h57
    simp at h4
    omega
   conv=>cbv
   constructor
   ·exact fun _=>⟨trivial,⟨trivial,trivial⟩,trivial⟩
   constructor
   ·exact fun _ _=>(show [sd].length<4611686018427387904/\[sd].flatten.length<=140737488355328 by rw[List.flatten_cons,List.flatten_nil,List.append_nil];exact⟨(show 1<4611686018427387904 by decide),by omega⟩)
   intro z2 hz2
   have hz2:=qnR (Ω:=Ω) (xss:=[sd]) hz2
   obtain⟨ho,hc,hq2,hq3,hq4,hq5,hr,hq6⟩:=z2
   obtain⟨hz2e,hz2o,hz2c⟩:hr=0/\ho=hB [sd].flatten/\ho.length<=hc:=hz2
   rw[List.flatten_cons,List.flatten_nil,List.append_nil]at hz2o
   have hol:ho.length=114:=by rw[hz2o,hB_len]
   conv=>cbv
   constructor
   ·intro h
    have h':False:=by (subst hΩ;have h4:(hr != 0)=true:=h;rw[hz2e]at h4;exact absurd h4 (by decide));first|done|(subst hΩ;exact Bool.noConfusion (show false=true from h))
    contradiction
   intro _
   conv=>cbv
   constructor
   ·exact fun _=>⟨trivial,trivial,trivial,(by decide:0<=57),(show 57<=hc by omega),Nat.le_refl _⟩
   constructor
   ·exact fun _=>⟨(by show 0+57<=ho.length;omega),trivial⟩
   have eT:(ho.drop 0).take 57=(hB sd).take 57:=by rw[List.drop_zero,hz2o]
   have hT57:((hB sd).take 57).length=57:=by rw[List.length_take,hB_len];decide
   have hTb:Byt ((hB sd).take 57):=fun a ha=>hB_byt sd a (List.mem_of_mem_take ha)
   constructor
   ·exact fun _ _=>(by subst hΩ;show Byt ((ho.drop 0).take 57)/\((ho.drop 0).take 57).length=57;rw[eT];exact⟨hTb,hT57⟩)
   intro z3 hz3
   obtain⟨sl,sc⟩:=z3
   obtain⟨hsl,hslc⟩:sl=qac ((hB sd).take 57)/\sl.length<=sc:=by
    subst hΩ
    have h4:sl=qac ((ho.drop 0).take 57)/\sl.length<=sc:=hz3
    rw[eT]at h4
    exact h4
   have hsl57:sl.length=57:=by rw[hsl,qc3,hT57]
   have hslb:Byt sl:=by rw[hsl];exact qmI hTb
   have hslS:(sl.drop 0).take sl.length=sl:=by rw[List.drop_zero,List.take_length]
   conv=>cbv
   constructor
   ·intro h
    have h':False:=by (subst hΩ;exact absurd h (by decide));first|done|(subst hΩ;exact Bool.noConfusion (show false=true from h))
    contradiction
   intro _
   conv=>cbv
   constructor
   ·exact fun _=>⟨(by subst hΩ;show 0+sl.length<=sl.length;omega),trivial⟩
   constructor
   ·exact fun _ _=>(by subst hΩ;show((sl.drop 0).take sl.length).length=57/\Byt ((sl.drop 0).take sl.length);rw[hslS];exact⟨hsl57,hslb⟩)
   intro _ _
   conv=>cbv
   constructor
   ·intro h
    have h':False:=by (subst hΩ;exact absurd h (by decide));first|done|(subst hΩ;exact Bool.noConfusion (show false=true from h))
    contradiction
   intro _
   conv=>cbv
   constructor
   ·exact fun _=>⟨trivial,trivial,trivial,(by subst hΩ;show 57<=ho.length;omega),(by subst hΩ;exact hz2c),Nat.le_refl _⟩
   constructor
   ·exact fun _=>trivial
   intro z4 hz4
   obtain⟨pl,pc⟩:=z4
   obtain⟨hpl,hplc⟩:pl=codB (nsm (nV sl) baseP)/\pl.length<=pc:=by
    subst hΩ
    have h4:pl=codB (nsm (nV ((sl.drop 0).take sl.length)) baseP)/\pl.length<=pc:=hz4
    rw[hslS]at h4
    exact h4
   have hpl57:pl.length=57:=by rw[hpl,qaR]
   conv=>cbv
   constructor
   ·intro h
    have h':False:=by (subst hΩ;have h4:(((sd.length:Nat):Int) != 57)=true:=h;rw[hl57]at h4;exact absurd h4 (by decide));first|done|(subst hΩ;exact Bool.noConfusion (show false=true from h))
    contradiction
   intro _
   conv=>cbv
   constructor
   ·exact fun _=>⟨trivial,⟨trivial,trivial⟩,trivial⟩
   constructor
   ·exact fun _ _=>(show(0:Int)<=114/\(114:Int)<=1099511627776/\[sd].length<4611686018427387904/\[sd].flatten.length<=70368744177664 by rw[List.flatten_cons,List.flatten_nil,List.append_nil];exact⟨by decide,by decide,(show 1<4611686018427387904 by decide),by omega⟩)
   intro z5 hz5
   obtain⟨rl,rc⟩:=z5
   obtain⟨hrl,hrlc⟩:rl=hB sd/\rl.length<=rc:=by
    have h4:rl=K.told [sd].flatten 114/\rl.length<=rc:=hz5
    rw[List.flatten_cons,List.flatten_nil,List.append_nil,qnT bs]at h4
    exact h4
   have hrl114:rl.length=114:=by rw[hrl,hB_len]
   have eT2:(rl.drop 0).take 57=(hB sd).take 57:=by rw[List.drop_zero,hrl]
   conv=>cbv
   constructor
   ·exact fun _=>⟨trivial,trivial,trivial,(by decide:0<=57),(show 57<=rc by omega),Nat.le_refl _⟩
   constructor
   ·exact fun _=>⟨(by show 0+57<=rl.length;omega),trivial⟩
   constructor
   ·exact fun _ _=>(by subst hΩ;show Byt ((rl.drop 0).take 57)/\((rl.drop 0).take 57).length=57;rw[eT2];exact⟨hTb,hT57⟩)
   intro z6 hz6
   obtain⟨tl,tc⟩:=z6
   obtain⟨htl,htlc⟩:tl=sl/\tl.length<=tc:=by
    subst hΩ
    have h4:tl=qac ((rl.drop 0).take 57)/\tl.length<=tc:=hz6
    rw[eT2,<- hsl]at h4
    exact h4
   have htlS:(tl.drop 0).take tl.length=sl:=by rw[List.drop_zero,List.take_length,htl]
   have htl57:tl.length=57:=by rw[htl];exact hsl57
   conv=>cbv
   constructor
   ·exact fun _=>⟨trivial,trivial,trivial,(by subst hΩ;show 57<=rl.length;omega),(by subst hΩ;exact hrlc),Nat.le_refl _⟩
   constructor
   ·exact fun _=>⟨(by subst hΩ;show 0+sl.length<=sl.length;omega),trivial⟩
   constructor
   ·exact fun _ _=>(by subst hΩ;show((sl.drop 0).take sl.length).length<=140737488355328;rw[hslS];omega)
   intro z7 hz7
   obtain⟨al,ac⟩:=z7
   obtain⟨hal,halc⟩:al=sl/\al.length<=ac:=by
    subst hΩ
    have h4:al=(sl.drop 0).take sl.length/\al.length<=ac:=hz7
    rw[hslS]at h4
    exact h4
   have hal57:al.length=57:=by rw[hal];exact hsl57
   have halS:(al.drop 0).take al.length=sl:=by rw[List.drop_zero,List.take_length,hal]
   conv=>cbv
   constructor
   ·exact fun _=>⟨(by subst hΩ;show 0+al.length<=al.length;omega),(by subst hΩ;show 0+tl.length<=tl.length;omega),trivial⟩
   constructor
   ·exact fun _ _=>(by subst hΩ;show((al.drop 0).take al.length).length<9223372036854775807/\((tl.drop 0).take tl.length).length<9223372036854775807;rw[halS,htlS];omega)
   intro _ _
   conv=>cbv
   constructor
   rotate_left
   ·intro h
    have h':False:=by (subst hΩ;have h5:((al.drop 0).take al.length == (tl.drop 0).take tl.length)=false:=h;rw[halS,htlS,beq_self_eq_true]at h5;exact Bool.noConfusion h5);first|done|(subst hΩ;exact Bool.noConfusion (show true=false from h))
    contradiction
   intro _
   conv=>cbv
   constructor
   ·exact fun _=>⟨(by subst hΩ;show 57+(ho.length-57)<=ho.length;omega),trivial⟩
   have hoS:(ho.drop 57).take (ho.length-57)=(hB sd).drop 57:=by
    rw[List.take_of_length_le (by rw[List.length_drop];omega),hz2o]
   have hrS:(rl.drop 57).take (rl.length-57)=(hB sd).drop 57:=by
    rw[List.take_of_length_le (by rw[List.length_drop];omega),hrl]
   have hP57:((hB sd).drop 57).length=57:=by rw[List.length_drop,hB_len]
   constructor
   ·exact fun _ _=>(by subst hΩ;show((ho.drop 57).take (ho.length-57)).length<=140737488355328;rw[hoS,hP57];decide)
   intro z8 hz8
   obtain⟨bl,bc2⟩:=z8
   obtain⟨hbl,hblc⟩:bl=(hB sd).drop 57/\bl.length<=bc2:=by
    subst hΩ
    have h4:bl=(ho.drop 57).take (ho.length-57)/\bl.length<=bc2:=hz8
    rw[hoS]at h4
    exact h4
   have hblS:(bl.drop 0).take bl.length=(hB sd).drop 57:=by rw[List.drop_zero,List.take_length,hbl]
   have hbl57:bl.length=57:=by rw[hbl];exact hP57
   conv=>cbv
   constructor
   ·exact fun _=>⟨(by subst hΩ;show 0+bl.length<=bl.length;omega),(by subst hΩ;show 57+(rl.length-57)<=rl.length;omega),trivial⟩
   constructor
   ·exact fun _ _=>(by subst hΩ;show((bl.drop 0).take bl.length).length<9223372036854775807/\((rl.drop 57).take (rl.length-57)).length<9223372036854775807;rw[hblS,hrS,hP57];decide)
   intro _ _
   conv=>cbv
   constructor
   rotate_left
   ·intro h
    have h':False:=by (subst hΩ;have h5:((bl.drop 0).take bl.length == (rl.drop 57).take (rl.length-57))=false:=h;rw[hblS,hrS,beq_self_eq_true]at h5;exact Bool.noConfusion h5);first|done|(subst hΩ;exact Bool.noConfusion (show true=false from h))
    contradiction
   intro _
   conv=>cbv
   constructor
   ·exact fun _=>⟨(by subst hΩ;show 0+pl.length<=pl.length;omega),trivial⟩
   have hplS:(pl.drop 0).take pl.length=codB (nsm (nV sl) baseP):=by rw[List.drop_zero,List.take_length,hpl]
   constructor
   ·exact fun _ _=>(by subst hΩ;show((pl.drop 0).take pl.length).length<=140737488355328;rw[hplS,qaR];decide)
   intro z9 hz9
   obtain⟨cl,cc⟩:=z9
   obtain⟨hcl,hclc⟩:cl=codB (nsm (nV sl) baseP)/\cl.length<=cc:=by
    subst hΩ
    have h4:cl=(pl.drop 0).take pl.length/\cl.length<=cc:=hz9
    rw[hplS]at h4
    exact h4
   have hclS:(cl.drop 0).take cl.length=codB (nsm (nV sl) baseP):=by rw[List.drop_zero,List.take_length,hcl]
   have hcl57:cl.length=57:=by rw[hcl,qaR]
   conv=>cbv
   constructor
   ·exact fun _=>⟨(by subst hΩ;show 0+tl.length<=tl.length;omega),trivial⟩
   constructor
   ·exact fun _ _=>(by subst hΩ;show Byt ((tl.drop 0).take tl.length)/\((tl.drop 0).take tl.length).length<1000000;rw[htlS];exact⟨hslb,by omega⟩)
   intro z10 hz10
   obtain⟨dl2,dc2⟩:=z10
   obtain⟨hdl4,hdlc⟩:dl2=codB (nsm (nV sl) baseP)/\dl2.length<=dc2:=by
    subst hΩ
    have h4:dl2=codB (nsm (nV ((tl.drop 0).take tl.length)) baseP)/\dl2.length<=dc2:=hz10
    rw[htlS]at h4
    exact h4
   have hdlS:(dl2.drop 0).take dl2.length=codB (nsm (nV sl) baseP):=by rw[List.drop_zero,List.take_length,hdl4]
   have hdl57:dl2.length=57:=by rw[hdl4,qaR]
   conv=>cbv
   constructor
   ·exact fun _=>⟨(by subst hΩ;show 0+cl.length<=cl.length;omega),(by subst hΩ;show 0+dl2.length<=dl2.length;omega),trivial⟩
   constructor
   ·exact fun _ _=>(by subst hΩ;show((cl.drop 0).take cl.length).length<9223372036854775807/\((dl2.drop 0).take dl2.length).length<9223372036854775807;rw[hclS,hdlS,qaR];decide)
   intro _ _
   conv=>cbv
   constructor
   rotate_left
   ·intro h
    have h':False:=by (subst hΩ;have h5:((cl.drop 0).take cl.length == (dl2.drop 0).take dl2.length)=false:=h;rw[hclS,hdlS,beq_self_eq_true]at h5;exact Bool.noConfusion h5);first|done|(subst hΩ;exact Bool.noConfusion (show true=false from h))
    contradiction
   intro _
   conv=>cbv
   constructor
   ·exact fun(_:Unit)=>trivial
   intro w hw
   conv=>cbv
   refine hQ _ _ _ _ ?_ rfl
   exact hw
  ·intro hd0
   have hd:domE f cx ≠ 0:=by subst hΩ;exact ne_of_beq_false hd0
   have hdl2:=hdn (by rw[he];exact hd)
   conv=>cbv
   constructor
   rotate_left
   ·intro h
    have h':False:=by (subst hΩ;have h4:(domE f cx != 0)=false:=h;simp at h4;exact hd h4);first|done|(subst hΩ;exact Bool.noConfusion (show true=false from h))
    contradiction
   intro _
   conv=>cbv
   constructor
   ·intro h
    have h':False:=by (subst hΩ;have h4:(((dl.length:Nat):Int) != 0)=true:=h;rw[hdl2]at h4;exact absurd h4 (by decide));first|done|(subst hΩ;exact Bool.noConfusion (show false=true from h))
    contradiction
   intro _
   conv=>cbv
   constructor
   ·intro h57
    have hne:sd.length ≠ 57:=by
     subst hΩ
     have h4:(((sd.length:Nat):Int) != 57)=true:=h57
     intro e
     rw[e]at h4
     exact absurd h4 (by decide)
    conv=>cbv
    constructor
    rotate_left
    ·intro h
     have h':False:=by (subst hΩ;have h4:(((sd.length:Nat):Int) != 57)=false:=h;simp at h4;omega);first|done|(subst hΩ;exact Bool.noConfusion (show true=false from h))
     contradiction
    intro _
    conv=>cbv
    constructor
    ·exact fun(_:Unit)=>trivial
    intro w hw
    conv=>cbv
    refine hQ _ _ _ _ ?_ rfl
    exact hw
   intro h57
   have hl57:sd.length=57:=by
    subst hΩ
    have h4:(((sd.length:Nat):Int) != 57)=false:=h57
    simp at h4
    omega
   conv=>cbv
   constructor
   ·exact fun _=>⟨trivial,⟨trivial,trivial⟩,trivial⟩
   constructor
   ·exact fun _ _=>(show [sd].length<4611686018427387904/\[sd].flatten.length<=140737488355328 by rw[List.flatten_cons,List.flatten_nil,List.append_nil];exact⟨(show 1<4611686018427387904 by decide),by omega⟩)
   intro z2 hz2
   have hz2:=qnR (Ω:=Ω) (xss:=[sd]) hz2
   obtain⟨ho,hc,hq2,hq3,hq4,hq5,hr,hq6⟩:=z2
   obtain⟨hz2e,hz2o,hz2c⟩:hr=0/\ho=hB [sd].flatten/\ho.length<=hc:=hz2
   rw[List.flatten_cons,List.flatten_nil,List.append_nil]at hz2o
   have hol:ho.length=114:=by rw[hz2o,hB_len]
   conv=>cbv
   constructor
   ·intro h
    have h':False:=by (subst hΩ;have h4:(hr != 0)=true:=h;rw[hz2e]at h4;exact absurd h4 (by decide));first|done|(subst hΩ;exact Bool.noConfusion (show false=true from h))
    contradiction
   intro _
   conv=>cbv
   constructor
   ·exact fun _=>⟨trivial,trivial,trivial,(by decide:0<=57),(show 57<=hc by omega),Nat.le_refl _⟩
   constructor
   ·exact fun _=>⟨(by show 0+57<=ho.length;omega),trivial⟩
   have eT:(ho.drop 0).take 57=(hB sd).take 57:=by rw[List.drop_zero,hz2o]
   have hT57:((hB sd).take 57).length=57:=by rw[List.length_take,hB_len];decide
   have hTb:Byt ((hB sd).take 57):=fun a ha=>hB_byt sd a (List.mem_of_mem_take ha)
   constructor
   ·exact fun _ _=>(by subst hΩ;show Byt ((ho.drop 0).take 57)/\((ho.drop 0).take 57).length=57;rw[eT];exact⟨hTb,hT57⟩)
   intro z3 hz3
   obtain⟨sl,sc⟩:=z3
   obtain⟨hsl,hslc⟩:sl=qac ((hB sd).take 57)/\sl.length<=sc:=by
    subst hΩ
    have h4:sl=qac ((ho.drop 0).take 57)/\sl.length<=sc:=hz3
    rw[eT]at h4
    exact h4
   have hsl57:sl.length=57:=by rw[hsl,qc3,hT57]
   have hslb:Byt sl:=by rw[hsl];exact qmI hTb
   have hslS:(sl.drop 0).take sl.length=sl:=by rw[List.drop_zero,List.take_length]
   conv=>cbv
   constructor
   ·intro h
    have h':False:=by (subst hΩ;exact absurd h (by decide));first|done|(subst hΩ;exact Bool.noConfusion (show false=true from h))
    contradiction
   intro _
   conv=>cbv
   constructor
   ·exact fun _=>⟨(by subst hΩ;show 0+sl.length<=sl.length;omega),trivial⟩
   constructor
   ·exact fun _ _=>(by subst hΩ;show((sl.drop 0).take sl.length).length=57/\Byt ((sl.drop 0).take sl.length);rw[hslS];exact⟨hsl57,hslb⟩)
   intro _ _
   conv=>cbv
   constructor
   ·intro h
    have h':False:=by (subst hΩ;exact absurd h (by decide));first|done|(subst hΩ;exact Bool.noConfusion (show false=true from h))
    contradiction
   intro _
   conv=>cbv
   constructor
   ·exact fun _=>⟨trivial,trivial,trivial,(by subst hΩ;show 57<=ho.length;omega),(by subst hΩ;exact hz2c),Nat.le_refl _⟩
   constructor
   ·exact fun _=>trivial
   intro z4 hz4
   obtain⟨pl,pc⟩:=z4
   obtain⟨hpl,hplc⟩:pl=codB (nsm (nV sl) baseP)/\pl.length<=pc:=by
    subst hΩ
    have h4:pl=codB (nsm (nV ((sl.drop 0).take sl.length)) baseP)/\pl.length<=pc:=hz4
    rw[hslS]at h4
    exact h4
   have hpl57:pl.length=57:=by rw[hpl,qaR]
   conv=>cbv
   constructor
   ·intro h
    have h':False:=by (subst hΩ;have h4:(((sd.length:Nat):Int) != 57)=true:=h;rw[hl57]at h4;exact absurd h4 (by decide));first|done|(subst hΩ;exact Bool.noConfusion (show false=true from h))
    contradiction
   intro _
   conv=>cbv
   constructor
   ·exact fun _=>⟨trivial,⟨trivial,trivial⟩,trivial⟩
   constructor
   ·exact fun _ _=>(show(0:Int)<=114/\(114:Int)<=1099511627776/\[sd].length<4611686018427387904/\[sd].flatten.length<=70368744177664 by rw[List.flatten_cons,List.flatten_nil,List.append_nil];exact⟨by decide,by decide,(show 1<4611686018427387904 by decide),by omega⟩)
   intro z5 hz5
   obtain⟨rl,rc⟩:=z5
   obtain⟨hrl,hrlc⟩:rl=hB sd/\rl.length<=rc:=by
    have h4:rl=K.told [sd].flatten 114/\rl.length<=rc:=hz5
    rw[List.flatten_cons,List.flatten_nil,List.append_nil,qnT bs]at h4
    exact h4
   have hrl114:rl.length=114:=by rw[hrl,hB_len]
   have eT2:(rl.drop 0).take 57=(hB sd).take 57:=by rw[List.drop_zero,hrl]
   conv=>cbv
   constructor
   ·exact fun _=>⟨trivial,trivial,trivial,(by decide:0<=57),(show 57<=rc by omega),Nat.le_refl _⟩
   constructor
   ·exact fun _=>⟨(by show 0+57<=rl.length;omega),trivial⟩
   constructor
   ·exact fun _ _=>(by subst hΩ;show Byt ((rl.drop 0).take 57)/\((rl.drop 0).take 57).length=57;rw[eT2];exact⟨hTb,hT57⟩)
   intro z6 hz6
   obtain⟨tl,tc⟩:=z6
   obtain⟨htl,htlc⟩:tl=sl/\tl.length<=tc:=by
    subst hΩ
    have h4:tl=qac ((rl.drop 0).take 57)/\tl.length<=tc:=hz6
    rw[eT2,<- hsl]at h4
    exact h4
   have htlS:(tl.drop 0).take tl.length=sl:=by rw[List.drop_zero,List.take_length,htl]
   have htl57:tl.length=57:=by rw[htl];exact hsl57
   conv=>cbv
   constructor
   ·exact fun _=>⟨trivial,trivial,trivial,(by subst hΩ;show 57<=rl.length;omega),(by subst hΩ;exact hrlc),Nat.le_refl _⟩
   constructor
   ·exact fun _=>⟨(by subst hΩ;show 0+sl.length<=sl.length;omega),trivial⟩
   constructor
   ·exact fun _ _=>(by subst hΩ;show((sl.drop 0).take sl.length).length<=140737488355328;rw[hslS];omega)
   intro z7 hz7
   obtain⟨al,ac⟩:=z7
   obtain⟨hal,halc⟩:al=sl/\al.length<=ac:=by
    subst hΩ
    have h4:al=(sl.drop 0).take sl.length/\al.length<=ac:=hz7
    rw[hslS]at h4
    exact h4
   have hal57:al.length=57:=by rw[hal];exact hsl57
   have halS:(al.drop 0).take al.length=sl:=by rw[List.drop_zero,List.take_length,hal]
   conv=>cbv
   constructor
   ·exact fun _=>⟨(by subst hΩ;show 0+al.length<=al.length;omega),(by subst hΩ;show 0+tl.length<=tl.length;omega),trivial⟩
   constructor
   ·exact fun _ _=>(by subst hΩ;show((al.drop 0).take al.length).length<9223372036854775807/\((tl.drop 0).take tl.length).length<9223372036854775807;rw[halS,htlS];omega)
   intro _ _
   conv=>cbv
   constructor
   rotate_left
   ·intro h
    have h':False:=by (subst hΩ;have h5:((al.drop 0).take al.length == (tl.drop 0).take tl.length)=false:=h;rw[halS,htlS,beq_self_eq_true]at h5;exact Bool.noConfusion h5);first|done|(subst hΩ;exact Bool.noConfusion (show true=false from h))
    contradiction
   intro _
   conv=>cbv
   constructor
   ·exact fun _=>⟨(by subst hΩ;show 57+(ho.length-57)<=ho.length;omega),trivial⟩
   have hoS:(ho.drop 57).take (ho.length-57)=(hB sd).drop 57:=by
    rw[List.take_of_length_le (by rw[List.length_drop];omega),hz2o]
   have hrS:(rl.drop 57).take (rl.length-57)=(hB sd).drop 57:=by
    rw[List.take_of_length_le (by rw[List.length_drop];omega),hrl]
   have hP57:((hB sd).drop 57).length=57:=by rw[List.length_drop,hB_len]
   constructor
   ·exact fun _ _=>(by subst hΩ;show((ho.drop 57).take (ho.length-57)).length<=140737488355328;rw[hoS,hP57];decide)
   intro z8 hz8
   obtain⟨bl,bc2⟩:=z8
   obtain⟨hbl,hblc⟩:bl=(hB sd).drop 57/\bl.length<=bc2:=by
    subst hΩ
    have h4:bl=(ho.drop 57).take (ho.length-57)/\bl.length<=bc2:=hz8
    rw[hoS]at h4
    exact h4
   have hblS:(bl.drop 0).take bl.length=(hB sd).drop 57:=by rw[List.drop_zero,List.take_length,hbl]
   have hbl57:bl.length=57:=by rw[hbl];exact hP57
   conv=>cbv
   constructor
   ·exact fun _=>⟨(by subst hΩ;show 0+bl.length<=bl.length;omega),(by subst hΩ;show 57+(rl.length-57)<=rl.length;omega),trivial⟩
   constructor
   ·exact fun _ _=>(by subst hΩ;show((bl.drop 0).take bl.length).length<9223372036854775807/\((rl.drop 57).take (rl.length-57)).length<9223372036854775807;rw[hblS,hrS,hP57];decide)
   intro _ _
   conv=>cbv
   constructor
   rotate_left
   ·intro h
    have h':False:=by (subst hΩ;have h5:((bl.drop 0).take bl.length == (rl.drop 57).take (rl.length-57))=false:=h;rw[hblS,hrS,beq_self_eq_true]at h5;exact Bool.noConfusion h5);first|done|(subst hΩ;exact Bool.noConfusion (show true=false from h))
    contradiction
   intro _
   conv=>cbv
   constructor
   ·exact fun _=>⟨(by subst hΩ;show 0+pl.length<=pl.length;omega),trivial⟩
   have hplS:(pl.drop 0).take pl.length=codB (nsm (nV sl) baseP):=by rw[List.drop_zero,List.take_length,hpl]
   constructor
   ·exact fun _ _=>(by subst hΩ;show((pl.drop 0).take pl.length).length<=140737488355328;rw[hplS,qaR];decide)
   intro z9 hz9
   obtain⟨cl,cc⟩:=z9
   obtain⟨hcl,hclc⟩:cl=codB (nsm (nV sl) baseP)/\cl.length<=cc:=by
    subst hΩ
    have h4:cl=(pl.drop 0).take pl.length/\cl.length<=cc:=hz9
    rw[hplS]at h4
    exact h4
   have hclS:(cl.drop 0).take cl.length=codB (nsm (nV sl) baseP):=by rw[List.drop_zero,List.take_length,hcl]
   have hcl57:cl.length=57:=by rw[hcl,qaR]
   conv=>cbv
   constructor
   ·exact fun _=>⟨(by subst hΩ;show 0+tl.length<=tl.length;omega),trivial⟩
   constructor
   ·exact fun _ _=>(by subst hΩ;show Byt ((tl.drop 0).take tl.length)/\((tl.drop 0).take tl.length).length<1000000;rw[htlS];exact⟨hslb,by omega⟩)
   intro z10 hz10
   obtain⟨dl2,dc2⟩:=z10
   obtain⟨hdl4,hdlc⟩:dl2=codB (nsm (nV sl) baseP)/\dl2.length<=dc2:=by
    subst hΩ
    have h4:dl2=codB (nsm (nV ((tl.drop 0).take tl.length)) baseP)/\dl2.length<=dc2:=hz10
    rw[htlS]at h4
    exact h4
   have hdlS:(dl2.drop 0).take dl2.length=codB (nsm (nV sl) baseP):=by rw[List.drop_zero,List.take_length,hdl4]
   have hdl57:dl2.length=57:=by rw[hdl4,qaR]
   conv=>cbv
   constructor
   ·exact fun _=>⟨(by subst hΩ;show 0+cl.length<=cl.length;omega),(by subst hΩ;show 0+dl2.length<=dl2.length;omega),trivial⟩
   constructor
   ·exact fun _ _=>(by subst hΩ;show((cl.drop 0).take cl.length).length<9223372036854775807/\((dl2.drop 0).take dl2.length).length<9223372036854775807;rw[hclS,hdlS,qaR];decide)
   intro _ _
   conv=>cbv
   constructor
   rotate_left
   ·intro h
    have h':False:=by (subst hΩ;have h5:((cl.drop 0).take cl.length == (dl2.drop 0).take dl2.length)=false:=h;rw[hclS,hdlS,beq_self_eq_true]at h5;exact Bool.noConfusion h5);first|done|(subst hΩ;exact Bool.noConfusion (show true=false from h))
    contradiction
   intro _
   conv=>cbv
   constructor
   ·exact fun(_:Unit)=>trivial
   intro w hw
   conv=>cbv
   refine hQ _ _ _ _ ?_ rfl
   exact hw
end Go.Sx.Tryz
end
