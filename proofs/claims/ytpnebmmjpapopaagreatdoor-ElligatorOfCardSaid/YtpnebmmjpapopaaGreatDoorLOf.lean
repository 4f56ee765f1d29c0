/-
  Proved: ElligatorOf answers true for every input within its guards.
-/
import Derived.Test.YtpnebmmjpapopaaGreatDoorX30
import Derived.Test.YtpnebmmjpapopaaGreatDoorX34
set_option linter.unusedSectionVars false
set_option linter.unusedVariables false
set_option linter.unusedSimpArgs false
set_option linter.deprecated false
section
set_option maxRecDepth 100000
namespace Go.Proofs.YtpnebmmjpapopaaGreatDoor
open Go Go.Proofs Go.RowKit Go.WideShapes Go.ChangeShapes Go.Sx
open Go.Sx
theorem strB_len (s:ByteArray):(strB s).length=s.size:=(List.length_map ..).trans Array.length_toList
theorem elligatorOf_lifted (os:Os) (started:os.Started) (H:Type) (enc:TypeId × Value->H) :
  ReturnsInHanded {} Tryz.checked os 8 .any (fun w args=>(Rows.elligatorOfSpec.pre enc Tryz.prog Tryz.f8 [] false w args/\laidMetH Tryz.prog Sx.Tryz.laid w)/\sizedMet enc Tryz.prog Tryz.f8 (OpenSpec.ofChange Rows.elligatorOfSpec) false w args)
   (Rows.elligatorOfSpec.post enc Tryz.prog Tryz.f8 false true false false):=by
 refine returnsInHanded_of_change_and (C:=Tryz.checked) (X:=fun w _=>laidMetH Tryz.prog Sx.Tryz.laid w) (fun _ _ _ hh h=>h.of_heap hh) Sx.Tryz.own started (by kernel_rfl) Tryz.func8
  (ChangeSpec.witness_at (enc:=enc) (C:=Tryz.checked) (os:=os) (X:=fun w _=>laidMetH Tryz.prog Sx.Tryz.laid w) false (Sx.Tryz.laidWorld os) #[.string ⟨#[]⟩,.slice none 0 0] 8 rfl (by kernel_rfl) (by kernel_rfl) (by kernel_rfl) (by kernel_rfl) (by kernel_rfl) (Sx.Tryz.laidWorld_met os _)) ?_
 intro W base args ds gs before hval hW _ _ hL _
 refine qrS Sx.Tryz.c_chicorylaw15_ElligatorOf (Ds:=[_,_]) (.cons (qrP Tryz.underlying9) (.cons (qxc Tryz.underlying23 Tryz.underlying22 Tryz.underlying5 (by kernel_rfl) (by kernel_rfl)) .nil)) (fun zs ha => ?_) Sx.Tryz.laidOut (fun t ht => ?_) rfl rfl Tryz.underlying4 (fun ds hd => ?_) hval hW (Sx.Tryz.globs_of_laid hL)
 ·match zs,ha with
  | [_,_],⟨⟨s,rfl,hs⟩,⟨xss,rfl,hl,hx⟩,_⟩=>exact⟨fun _=>⟨qqh (by rw[strB_len];exact hs),hl,fun xs h=>⟨qqh (hx xs h).1,fun a ha=>qxd ((hx xs h).2 a ha)⟩⟩,fun x hx=>by rw[show x=true from hx];rfl⟩
 ·rw[Tryz.params8]at ht
  simp only[List.mem_cons,List.not_mem_nil,or_false]at ht
  rcases ht with rfl|rfl<;>exact⟨by kernel_rfl,of_decide_eq_true (by kernel_rfl)⟩
 ·match ds,hd with
  | [d0,d1],_=>rfl
theorem elligatorOf_holds:Rows.ElligatorOfSaid :=
 OpenClaim.holds_of_wide 8 Tryz.f8 rfl rfl rfl rfl rfl rfl rfl ⟨rfl,rfl,rfl,rfl,rfl⟩ rfl rfl rfl rfl rfl (by kernel_rfl) Tryz.func8 (by kernel_rfl)
  (of_decide_eq_true (by kernel_rfl)) (by unfold Func.isWrapper;first|(rw[if_pos (by decide +kernel)];kernel_rfl)|(rw[if_neg (by decide +kernel)];exact⟨rfl,rfl⟩))
  (fun os started H enc _=>elligatorOf_lifted os started H enc)
theorem elligatorOf_card:Rows.ElligatorOfCardSaid :=
 Claim7.holds_tied_plain_at .later [] [.data,.data,.data] true _ _
  elligatorOf_holds (fun _ h=>by cases h) (by kernel_rfl) (fun _ h=>by cases h) elligatorOf_row_tie rfl ⟨rfl,rfl⟩ (by kernel_rfl) rfl
  (fun f fn hf hfn=>by
   obtain rfl:f=8:=Option.some.inj ((show Tryz.prog.funcNamed "chicory/chicorylaw15.ElligatorOf" = some 8 by kernel_rfl).symm.trans hf) |>.symm
   obtain rfl:fn=Tryz.f8:=(Option.some.inj (Tryz.func8.symm.trans hfn)).symm
   exact⟨by kernel_rfl,fun j t ht=>by
    rw[Tryz.params8]at ht
    have hm:=Array.mem_of_getElem? ht
    simp only[List.mem_toArray,List.mem_cons,List.not_mem_nil,or_false]at hm
    rcases hm with rfl|rfl
    ·exact(show Tryz.prog.wantsStandIn 9=false by kernel_rfl)
    ·exact(show Tryz.prog.wantsStandIn 23=false by kernel_rfl)⟩)
  (by kernel_rfl)
#print axioms elligatorOf_card
end Go.Proofs.YtpnebmmjpapopaaGreatDoor
end
