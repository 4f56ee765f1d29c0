/-
  Proved: EddsaKeys answers true for every input within its guards.
-/
import Derived.Test.YtpnebmmjpapopaaGreatDoorX30
import Derived.Test.YtpnebmmjpapopaaGreatDoorX4
import Derived.Test.YtpnebmmjpapopaaGreatDoorX43
set_option linter.unusedSectionVars false
set_option linter.unusedVariables false
set_option linter.unusedSimpArgs false
set_option linter.deprecated false
section
set_option maxRecDepth 100000
namespace Go.Proofs.YtpnebmmjpapopaaGreatDoor
open Go Go.Proofs Go.RowKit Go.WideShapes Go.ChangeShapes Go.Sx
open Go.Sx
theorem eddsaKeys_lifted (os:Os) (started:os.Started) (H:Type) (enc:TypeId × Value->H) :
  ReturnsInHanded {} Tryz.checked os 3 .any (fun w args=>(Rows.eddsaKeysSpec.pre enc Tryz.prog Tryz.f3 [] false w args/\laidMetH Tryz.prog Sx.Tryz.laid w)/\sizedMet enc Tryz.prog Tryz.f3 (OpenSpec.ofChange Rows.eddsaKeysSpec) false w args)
   (Rows.eddsaKeysSpec.post enc Tryz.prog Tryz.f3 false true false false):=by
 refine returnsInHanded_of_change_and (C:=Tryz.checked) (X:=fun w _=>laidMetH Tryz.prog Sx.Tryz.laid w) (fun _ _ _ hh h=>h.of_heap hh) Sx.Tryz.own started (by kernel_rfl) Tryz.func3
  (ChangeSpec.witness_at (enc:=enc) (C:=Tryz.checked) (os:=os) (X:=fun w _=>laidMetH Tryz.prog Sx.Tryz.laid w) false (Sx.Tryz.laidWorld os) #[.agg #[.int .i64 0,.slice none 0 0,.slice none 0 0,.slice none 0 0]] 8 rfl (by kernel_rfl) (by kernel_rfl) (by kernel_rfl) (by kernel_rfl) (by kernel_rfl) (Sx.Tryz.laidWorld_met os _)) ?_
 intro W base args ds gs before hval hW _ _ hL _
 refine qpp Sx.Tryz.c_chicorylaw17_EddsaKeys (Ds:=[_]) (.cons (qtI Tryz.underlying25 rfl rfl rfl rfl (by kernel_rfl) Tryz.underlying3 Tryz.underlying22 Tryz.underlying22 Tryz.underlying23 Tryz.underlying5 Tryz.underlying5 Tryz.underlying22 Tryz.underlying5 (by kernel_rfl) (by kernel_rfl) (by kernel_rfl) (by kernel_rfl) (by kernel_rfl) (by kernel_rfl) (by kernel_rfl) (by kernel_rfl)) .nil) (fun zs ha => ?_) Sx.Tryz.laidOut (fun t ht => ?_) rfl rfl Tryz.underlying4 (fun ds hd => ?_) hval hW (Sx.Tryz.globs_of_laid hL)
 ·match zs,ha with
  | [_],⟨⟨n,sd,cx,xss,rfl,⟨hs1,hs2⟩,⟨hc1,hc2⟩,hm1,hm2⟩,_⟩=>exact⟨fun _=>⟨⟨fun a ha=>qk2 (hs2 a ha),fun a ha=>qk2 (hc2 a ha)⟩,qhH hm1,qhH hs1,qhH hc1⟩,fun x hx=>by rw[show x=true from hx];rfl⟩
 ·rw[Tryz.params3]at ht
  simp only[List.mem_cons,List.not_mem_nil,or_false]at ht
  rcases ht with rfl<;>exact⟨by kernel_rfl,of_decide_eq_true (by kernel_rfl)⟩
 ·match ds,hd with
  | [d0],_=>rfl
theorem eddsaKeys_holds:Rows.EddsaKeysSaid :=
 OpenClaim.holds_of_wide 3 Tryz.f3 rfl rfl rfl rfl rfl rfl rfl ⟨rfl,rfl,rfl,rfl,rfl⟩ rfl rfl rfl rfl rfl (by kernel_rfl) Tryz.func3 (by kernel_rfl)
  (of_decide_eq_true (by kernel_rfl)) (by unfold Func.isWrapper;first|(rw[if_pos (by decide +kernel)];kernel_rfl)|(rw[if_neg (by decide +kernel)];exact⟨rfl,rfl⟩))
  (fun os started H enc _=>eddsaKeys_lifted os started H enc)
theorem eddsaKeys_card:Rows.EddsaKeysCardSaid :=
 Claim7.holds_tied_plain_at .later [] [.data,.data,.data] true _ _
  eddsaKeys_holds (fun _ h=>by cases h) (by kernel_rfl) (fun _ h=>by cases h) eddsaKeys_row_tie rfl ⟨rfl,rfl⟩ (by kernel_rfl) rfl
  (fun f fn hf hfn=>by
   obtain rfl:f=3:=Option.some.inj ((show Tryz.prog.funcNamed "chicory/chicorylaw17.EddsaKeys" = some 3 by kernel_rfl).symm.trans hf) |>.symm
   obtain rfl:fn=Tryz.f3:=(Option.some.inj (Tryz.func3.symm.trans hfn)).symm
   exact⟨by kernel_rfl,fun j t ht=>by
    rw[Tryz.params3]at ht
    have hm:=Array.mem_of_getElem? ht
    simp only[List.mem_toArray,List.mem_cons,List.not_mem_nil,or_false]at hm
    rcases hm with rfl
    ·exact(show Tryz.prog.wantsStandIn 25=false by kernel_rfl)⟩)
  (by kernel_rfl)
#print axioms eddsaKeys_card
end Go.Proofs.YtpnebmmjpapopaaGreatDoor
end
