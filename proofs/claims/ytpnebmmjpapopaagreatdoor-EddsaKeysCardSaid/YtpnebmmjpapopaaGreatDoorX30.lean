/-
  Part of the proof of a statement: the means.
-/
import Derived.Test.YtpnebmmjpapopaaGreatDoorX4
import Derived.Test.YtpnebmmjpapopaaGreatDoorX42
import Derived.Test.YtpnebmmjpapopaaGreatDoorTie
import Derived.Test.YtpnebmmjpapopaaGreatDoorCards
set_option linter.unusedSectionVars false
set_option linter.unusedVariables false
set_option linter.unusedSimpArgs false
set_option linter.deprecated false
section
set_option maxRecDepth 100000
namespace Go.Sx.Tryz
open Go.Proofs Go.RowKit Go.WideShapes Go.ChangeShapes
open Go.Proofs.YtpnebmmjpapopaaGreatDoor
def laid:List (String × DataW Unit):=[("chicory/keccak.constants", Rows.laid_chicory_keccak_constants),("chicory/keccak.offsets", Rows.laid_chicory_keccak_offsets),("chicory/keccak.way", Rows.laid_chicory_keccak_way)]
theorem globs_of_laid {W:World} (h:laidMetH Tryz.prog laid W):qeR ⟨T,fun _=>none,fun _=>none,glob,Om.real,fun _=>none,fun _=>none⟩ W:=by
 have h':laidMet Tryz.prog laid W:=h
 obtain⟨ps,hl,_⟩:=h'
 intro g
 show Den ρ0 (qy W) (glob g) (.pointer (some ⟨g,0,none⟩))
 match g with
 | 0=>exact qhG (name := "chicory/keccak.constants") (t:=261) Tryz.underlying261 Tryz.underlying41 (by kernel_rfl) (by kernel_rfl) (by kernel_rfl) (by kernel_rfl) (by kernel_rfl) hl (List.mem_cons_self ..)
 | 1=>exact qhG (name := "chicory/keccak.way") (t:=265) Tryz.underlying265 Tryz.underlying3 (by kernel_rfl) (by kernel_rfl) (by kernel_rfl) (by kernel_rfl) (by kernel_rfl) hl (List.mem_cons_of_mem _ (List.mem_cons_of_mem _ (List.mem_cons_self ..)))
 | 2=>exact qhG (name := "chicory/keccak.offsets") (t:=265) Tryz.underlying265 Tryz.underlying3 (by kernel_rfl) (by kernel_rfl) (by kernel_rfl) (by kernel_rfl) (by kernel_rfl) hl (List.mem_cons_of_mem _ (List.mem_cons_self ..))
 | n+3=>trivial
noncomputable def laidWorld (os:Os):World :=
 let w0:=World.holding Tryz.prog os ⟨#[],#[],[]⟩
 let lay (xs:List Value):Obj->Obj:=fun
  | .cells _ t frozen =>.cells xs.toArray t frozen
  | o=>o
 { w0 with heap:=((w0.heap.modify 0 (lay (constants.map (.int .u64)))).modify 1 (lay (way.map (.int .i64)))).modify 2 (lay (offsets.map (.int .i64))) }
theorem laidWorld_met (os:Os) (args:Array Value):laidMetH Tryz.prog laid ((laidWorld os).forCall (fun _ _=>0) ⟨#[],args,[]⟩).memory :=
 (laidMet_of_run' 8 (by kernel_rfl) (by kernel_rfl):laidMet Tryz.prog laid _)
theorem own:ownKnob Tryz.prog.godebug=none:=by kernel_rfl
theorem laidOut:laidOutB Tryz.prog=true:=by kernel_rfl
end Go.Sx.Tryz
end
