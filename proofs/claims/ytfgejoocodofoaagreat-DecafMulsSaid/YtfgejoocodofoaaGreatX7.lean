/-
  Part of the proof of a statement: the means.
-/
import Derived.Test.YtfgejoocodofoaaGreatChecked
import Derived.Test.YtfgejoocodofoaaGreatX3
set_option linter.unusedSectionVars false
set_option linter.unusedVariables false
set_option linter.unusedSimpArgs false
set_option linter.deprecated false
section
set_option maxRecDepth 100000
namespace Go.Sx.Tryz
open Go.Proofs
def tb (t k : TypeId) (ti : TI) : Option TI := match Nat.beq t k with | true => some ti | false => none
def br (t k : TypeId) (a b : Option TI) : Option TI := match Nat.blt t k with | true => a | false => b
def T (t : TypeId) : Option TI :=
 (br t 75
 (br t 27
 (br t 6
 (br t 3
 (br t 2
 (tb t 1 ⟨1, false, 8, .val Value.nilFunc, .other⟩) (tb t 2 ⟨1, false, 8, .lit .i64 0, .int .i64⟩)) (br t 4
 (tb t 3 ⟨1, false, 8, .lit .i64 0, .int .i64⟩) (br t 5
 (tb t 4 ⟨1, false, 1, .bl false, .bool⟩) (tb t 5 ⟨1, false, 1, .lit .u8 0, .int .u8⟩)))) (br t 22
 (br t 8
 (tb t 6 ⟨1, false, 1, .lit .u8 0, .int .u8⟩) (br t 9
 (tb t 8 ⟨4, true, 24, .agg [.lit .i64 0, .lit .i64 0, .bl false, .lit .u8 0], .st [(0, 2), (1, 3), (2, 4), (3, 6)]⟩) (tb t 9 ⟨1, false, 16, .val (.string ⟨#[]⟩), .str⟩))) (br t 24
 (tb t 22 ⟨1, false, 24, .val (.slice none 0 0), .slice 5⟩) (br t 25
 (tb t 24 ⟨2, true, 32, .agg [.val (.slice none 0 0), .lit .i64 0], .st [(0, 22), (1, 3)]⟩) (tb t 25 ⟨2, true, 16, .row .i64 2 [0, 0], .arr 2 3⟩))))) (br t 38
 (br t 32
 (br t 28
 (tb t 27 ⟨1, false, 8, .lit .u64 0, .int .u64⟩) (br t 30
 (tb t 28 ⟨8, true, 64, .row .u64 8 [0, 0, 0, 0, 0, 0, 0, 0], .arr 8 27⟩) (tb t 30 ⟨8, true, 64, .agg [.row .u64 8 [0, 0, 0, 0, 0, 0, 0, 0]], .st [(0, 28)]⟩))) (br t 34
 (tb t 32 ⟨24, true, 192, .agg [.agg [.row .u64 8 [0, 0, 0, 0, 0, 0, 0, 0]], .agg [.row .u64 8 [0, 0, 0, 0, 0, 0, 0, 0]], .agg [.row .u64 8 [0, 0, 0, 0, 0, 0, 0, 0]]], .st [(0, 30), (8, 30), (16, 30)]⟩) (br t 36
 (tb t 34 ⟨24, true, 192, .agg [.agg [.agg [.row .u64 8 [0, 0, 0, 0, 0, 0, 0, 0]], .agg [.row .u64 8 [0, 0, 0, 0, 0, 0, 0, 0]], .agg [.row .u64 8 [0, 0, 0, 0, 0, 0, 0, 0]]]], .st [(0, 32)]⟩) (tb t 36 ⟨16, true, 128, .row .i64 16 [0, 0, 0, 0, 0, 0, 0, 0, 0, 0, 0, 0, 0, 0, 0, 0], .arr 16 3⟩)))) (br t 60
 (br t 42
 (tb t 38 ⟨48, true, 384, .agg [.row .i64 16 [0, 0, 0, 0, 0, 0, 0, 0, 0, 0, 0, 0, 0, 0, 0, 0], .row .i64 16 [0, 0, 0, 0, 0, 0, 0, 0, 0, 0, 0, 0, 0, 0, 0, 0], .row .i64 16 [0, 0, 0, 0, 0, 0, 0, 0, 0, 0, 0, 0, 0, 0, 0, 0]], .st [(0, 36), (16, 36), (32, 36)]⟩) (br t 51
 (tb t 42 ⟨1, false, 8, .lit .i64 0, .int .i64⟩) (tb t 51 ⟨4, true, 64, .agg [.agg [.val (.slice none 0 0), .lit .i64 0], .agg [.val (.slice none 0 0), .lit .i64 0]], .arr 2 24⟩))) (br t 69
 (tb t 60 ⟨1, false, 8, .val Value.nilFunc, .other⟩) (br t 71
 (tb t 69 ⟨7, true, 56, .row .u64 7 [0, 0, 0, 0, 0, 0, 0], .arr 7 27⟩) (tb t 71 ⟨7, true, 56, .row .u64 7 [0, 0, 0, 0, 0, 0, 0], .st [(0, 69)]⟩)))))) (br t 155
 (br t 131
 (br t 108
 (br t 99
 (tb t 75 ⟨2, true, 48, .agg [.val (.slice none 0 0), .val (.slice none 0 0)], .arr 2 22⟩) (br t 100
 (tb t 99 ⟨1, false, 8, .val Value.nilFunc, .other⟩) (tb t 100 ⟨1, false, 8, .val Value.nilFunc, .other⟩))) (br t 129
 (tb t 108 ⟨1, false, 8, .val Value.nilFunc, .other⟩) (br t 130
 (tb t 129 ⟨1, false, 24, .val (.slice none 0 0), .slice 27⟩) (tb t 130 ⟨1, false, 24, .val (.slice none 0 0), .slice 27⟩)))) (br t 147
 (br t 141
 (tb t 131 ⟨1, false, 24, .val (.slice none 0 0), .slice 34⟩) (br t 142
 (tb t 141 ⟨31, true, 248, .row .i64 31 [0, 0, 0, 0, 0, 0, 0, 0, 0, 0, 0, 0, 0, 0, 0, 0, 0, 0, 0, 0, 0, 0, 0, 0, 0, 0, 0, 0, 0, 0, 0], .arr 31 3⟩) (tb t 142 ⟨1, false, 24, .val (.slice none 0 0), .slice 3⟩))) (br t 149
 (tb t 147 ⟨1, false, 8, .val Value.nilFunc, .other⟩) (br t 154
 (tb t 149 ⟨1, false, 24, .val (.slice none 0 0), .slice 30⟩) (tb t 154 ⟨2, true, 16, .agg [.lit .u64 0, .lit .u64 0], .st [(0, 27), (1, 27)]⟩))))) (br t 184
 (br t 166
 (br t 160
 (tb t 155 ⟨30, true, 240, .row .u64 30 [0, 0, 0, 0, 0, 0, 0, 0, 0, 0, 0, 0, 0, 0, 0, 0, 0, 0, 0, 0, 0, 0, 0, 0, 0, 0, 0, 0, 0, 0], .arr 15 154⟩) (br t 162
 (tb t 160 ⟨1, true, 8, .agg [.lit .i64 0], .st [(0, 3)]⟩) (tb t 162 ⟨1, false, 8, .val Value.nilFunc, .other⟩))) (br t 168
 (tb t 166 ⟨1, false, 24, .val (.slice none 0 0), .slice 32⟩) (br t 169
 (tb t 168 ⟨1, false, 8, .val Value.nilFunc, .other⟩) (tb t 169 ⟨1, false, 8, .val Value.nilFunc, .other⟩)))) (br t 196
 (br t 186
 (tb t 184 ⟨1, false, 24, .val (.slice none 0 0), .slice 22⟩) (br t 193
 (tb t 186 ⟨2, true, 48, .agg [.val (.slice none 0 0), .val (.slice none 0 0)], .arr 2 166⟩) (tb t 193 ⟨56, true, 56, .row .u8 56 [0, 0, 0, 0, 0, 0, 0, 0, 0, 0, 0, 0, 0, 0, 0, 0, 0, 0, 0, 0, 0, 0, 0, 0, 0, 0, 0, 0, 0, 0, 0, 0, 0, 0, 0, 0, 0, 0, 0, 0, 0, 0, 0, 0, 0, 0, 0, 0, 0, 0, 0, 0, 0, 0, 0, 0], .arr 56 5⟩))) (br t 198
 (tb t 196 ⟨1, false, 8, .val Value.nilFunc, .other⟩) (br t 202
 (tb t 198 ⟨1, false, 8, .val Value.nilFunc, .other⟩) (tb t 202 ⟨1, false, 8, .val Value.nilFunc, .other⟩)))))))
theorem qC {t k : TypeId} {x ti : TI} (h : TyOk Go.Proofs.Tryz.prog k x) : tb t k x = some ti → TyOk Go.Proofs.Tryz.prog t ti := by
 unfold tb
 split
 · rename_i e; intro h2; cases h2; rw [Nat.eq_of_beq_eq_true e]; exact h
 · intro h2; cases h2
theorem qD {t k : TypeId} {a b : Option TI} {ti : TI} (h1 : a = some ti → TyOk Go.Proofs.Tryz.prog t ti) (h2 : b = some ti → TyOk Go.Proofs.Tryz.prog t ti) : br t k a b = some ti → TyOk Go.Proofs.Tryz.prog t ti := by
 unfold br
 split <;> assumption
theorem T_ok : ∀ t ti, T t = some ti → TyOk Go.Proofs.Tryz.prog t ti := fun t ti =>
 (qD (qD (qD (qD (qD (qC (qB Tryz.type1 Tryz.underlying1 (by rfl) (by rfl) (by rfl) (by rfl) (by rfl) (by rfl) (by rfl) (by rfl)))
 (qC (qB Tryz.type2 Tryz.underlying2 (by rfl) (by rfl) (by rfl) (by rfl) (by rfl) (by rfl) (by rfl) (by rfl))))
 (qD (qC (qB Tryz.type3 Tryz.underlying3 (by rfl) (by rfl) (by rfl) (by rfl) (by rfl) (by rfl) (by rfl) (by rfl)))
 (qD (qC (qB Tryz.type4 Tryz.underlying4 (by rfl) (by rfl) (by rfl) (by rfl) (by rfl) (by rfl) (by rfl) (by rfl)))
 (qC (qB Tryz.type5 Tryz.underlying5 (by rfl) (by rfl) (by rfl) (by rfl) (by rfl) (by rfl) (by rfl) (by rfl))))))
 (qD (qD (qC (qB Tryz.type6 Tryz.underlying6 (by rfl) (by rfl) (by rfl) (by rfl) (by rfl) (by rfl) (by rfl) (by rfl)))
 (qD (qC (qB Tryz.type8 Tryz.underlying8 (by rfl) (by rfl) (by rfl) (by rfl) (by rfl) (by rfl) (by rfl) (by rfl)))
 (qC (qB Tryz.type9 Tryz.underlying9 (by rfl) (by rfl) (by rfl) (by rfl) (by rfl) (by rfl) (by rfl) (by rfl)))))
 (qD (qC (qB Tryz.type22 Tryz.underlying22 (by rfl) (by rfl) (by rfl) (by rfl) (by rfl) (by rfl) (by rfl) (by rfl)))
 (qD (qC (qB Tryz.type24 Tryz.underlying24 (by rfl) (by rfl) (by rfl) (by rfl) (by rfl) (by rfl) (by rfl) (by rfl)))
 (qC (qB Tryz.type25 Tryz.underlying25 (by rfl) (by rfl) (by rfl) (by rfl) (by rfl) (by rfl) (by rfl) (by rfl)))))))
 (qD (qD (qD (qC (qB Tryz.type27 Tryz.underlying27 (by rfl) (by rfl) (by rfl) (by rfl) (by rfl) (by rfl) (by rfl) (by rfl)))
 (qD (qC (qB Tryz.type28 Tryz.underlying28 (by rfl) (by rfl) (by rfl) (by rfl) (by rfl) (by rfl) (by rfl) (by rfl)))
 (qC (qB Tryz.type30 Tryz.underlying30 (by rfl) (by rfl) (by rfl) (by rfl) (by rfl) (by rfl) (by rfl) (by rfl)))))
 (qD (qC (qB Tryz.type32 Tryz.underlying32 (by rfl) (by rfl) (by rfl) (by rfl) (by rfl) (by rfl) (by rfl) (by rfl)))
 (qD (qC (qB Tryz.type34 Tryz.underlying34 (by rfl) (by rfl) (by rfl) (by rfl) (by rfl) (by rfl) (by rfl) (by rfl)))
 (qC (qB Tryz.type36 Tryz.underlying36 (by rfl) (by rfl) (by rfl) (by rfl) (by rfl) (by rfl) (by rfl) (by rfl))))))
 (qD (qD (qC (qB Tryz.type38 Tryz.underlying38 (by rfl) (by rfl) (by rfl) (by rfl) (by rfl) (by rfl) (by rfl) (by rfl)))
 (qD (qC (qB Tryz.type42 Tryz.underlying42 (by rfl) (by rfl) (by rfl) (by rfl) (by rfl) (by rfl) (by rfl) (by rfl)))
 (qC (qB Tryz.type51 Tryz.underlying51 (by rfl) (by rfl) (by rfl) (by rfl) (by rfl) (by rfl) (by rfl) (by rfl)))))
 (qD (qC (qB Tryz.type60 Tryz.underlying60 (by rfl) (by rfl) (by rfl) (by rfl) (by rfl) (by rfl) (by rfl) (by rfl)))
 (qD (qC (qB Tryz.type69 Tryz.underlying69 (by rfl) (by rfl) (by rfl) (by rfl) (by rfl) (by rfl) (by rfl) (by rfl)))
 (qC (qB Tryz.type71 Tryz.underlying71 (by rfl) (by rfl) (by rfl) (by rfl) (by rfl) (by rfl) (by rfl) (by rfl))))))))
 (qD (qD (qD (qD (qC (qB Tryz.type75 Tryz.underlying75 (by rfl) (by rfl) (by rfl) (by rfl) (by rfl) (by rfl) (by rfl) (by rfl)))
 (qD (qC (qB Tryz.type99 Tryz.underlying99 (by rfl) (by rfl) (by rfl) (by rfl) (by rfl) (by rfl) (by rfl) (by rfl)))
 (qC (qB Tryz.type100 Tryz.underlying100 (by rfl) (by rfl) (by rfl) (by rfl) (by rfl) (by rfl) (by rfl) (by rfl)))))
 (qD (qC (qB Tryz.type108 Tryz.underlying108 (by rfl) (by rfl) (by rfl) (by rfl) (by rfl) (by rfl) (by rfl) (by rfl)))
 (qD (qC (qB Tryz.type129 Tryz.underlying129 (by rfl) (by rfl) (by rfl) (by rfl) (by rfl) (by rfl) (by rfl) (by rfl)))
 (qC (qB Tryz.type130 Tryz.underlying130 (by rfl) (by rfl) (by rfl) (by rfl) (by rfl) (by rfl) (by rfl) (by rfl))))))
 (qD (qD (qC (qB Tryz.type131 Tryz.underlying131 (by rfl) (by rfl) (by rfl) (by rfl) (by rfl) (by rfl) (by rfl) (by rfl)))
 (qD (qC (qB Tryz.type141 Tryz.underlying141 (by rfl) (by rfl) (by rfl) (by rfl) (by rfl) (by rfl) (by rfl) (by rfl)))
 (qC (qB Tryz.type142 Tryz.underlying142 (by rfl) (by rfl) (by rfl) (by rfl) (by rfl) (by rfl) (by rfl) (by rfl)))))
 (qD (qC (qB Tryz.type147 Tryz.underlying147 (by rfl) (by rfl) (by rfl) (by rfl) (by rfl) (by rfl) (by rfl) (by rfl)))
 (qD (qC (qB Tryz.type149 Tryz.underlying149 (by rfl) (by rfl) (by rfl) (by rfl) (by rfl) (by rfl) (by rfl) (by rfl)))
 (qC (qB Tryz.type154 Tryz.underlying154 (by rfl) (by rfl) (by rfl) (by rfl) (by rfl) (by rfl) (by rfl) (by rfl)))))))
 (qD (qD (qD (qC (qB Tryz.type155 Tryz.underlying155 (by rfl) (by rfl) (by rfl) (by rfl) (by rfl) (by rfl) (by rfl) (by rfl)))
 (qD (qC (qB Tryz.type160 Tryz.underlying160 (by rfl) (by rfl) (by rfl) (by rfl) (by rfl) (by rfl) (by rfl) (by rfl)))
 (qC (qB Tryz.type162 Tryz.underlying162 (by rfl) (by rfl) (by rfl) (by rfl) (by rfl) (by rfl) (by rfl) (by rfl)))))
 (qD (qC (qB Tryz.type166 Tryz.underlying166 (by rfl) (by rfl) (by rfl) (by rfl) (by rfl) (by rfl) (by rfl) (by rfl)))
 (qD (qC (qB Tryz.type168 Tryz.underlying168 (by rfl) (by rfl) (by rfl) (by rfl) (by rfl) (by rfl) (by rfl) (by rfl)))
 (qC (qB Tryz.type169 Tryz.underlying169 (by rfl) (by rfl) (by rfl) (by rfl) (by rfl) (by rfl) (by rfl) (by rfl))))))
 (qD (qD (qC (qB Tryz.type184 Tryz.underlying184 (by rfl) (by rfl) (by rfl) (by rfl) (by rfl) (by rfl) (by rfl) (by rfl)))
 (qD (qC (qB Tryz.type186 Tryz.underlying186 (by rfl) (by rfl) (by rfl) (by rfl) (by rfl) (by rfl) (by rfl) (by rfl)))
 (qC (qB Tryz.type193 Tryz.underlying193 (by rfl) (by rfl) (by rfl) (by rfl) (by rfl) (by rfl) (by rfl) (by rfl)))))
 (qD (qC (qB Tryz.type196 Tryz.underlying196 (by rfl) (by rfl) (by rfl) (by rfl) (by rfl) (by rfl) (by rfl) (by rfl)))
 (qD (qC (qB Tryz.type198 Tryz.underlying198 (by rfl) (by rfl) (by rfl) (by rfl) (by rfl) (by rfl) (by rfl) (by rfl)))
 (qC (qB Tryz.type202 Tryz.underlying202 (by rfl) (by rfl) (by rfl) (by rfl) (by rfl) (by rfl) (by rfl) (by rfl)))))))))
end Go.Sx.Tryz
end
