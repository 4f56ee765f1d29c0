/-
  Part of the proof of a statement: the means.
-/
import Derived.Test.YtpnebmmjpapopaaGreatDoorChecked
import Derived.Test.YtpnebmmjpapopaaGreatDoorX31
set_option linter.unusedSectionVars false
set_option linter.unusedVariables false
set_option linter.unusedSimpArgs false
set_option linter.deprecated false
section
set_option maxRecDepth 100000
namespace Go.Sx.Tryz
open Go.Proofs
def tb (t k:TypeId) (ti:TI):Option TI:=match Nat.beq t k with|true=>some ti|false=>none
def br (t k:TypeId) (a b:Option TI):Option TI:=match Nat.blt t k with|true=>a|false=>b
def T (t:TypeId):Option TI :=
 (br t 154
 (br t 42
 (br t 9
 (br t 4
 (br t 2
 (tb t 1 ⟨1,false,8,.val Value.nilFunc,.other⟩) (br t 3
 (tb t 2 ⟨1,false,8,.lit .i64 0,.int .i64⟩) (tb t 3 ⟨1,false,8,.lit .i64 0,.int .i64⟩))) (br t 6
 (br t 5
 (tb t 4 ⟨1,false,1,.bl false,.bool⟩) (tb t 5 ⟨1,false,1,.lit .u8 0,.int .u8⟩)) (br t 8
 (tb t 6 ⟨1,false,1,.lit .u8 0,.int .u8⟩) (tb t 8 ⟨4,true,24,.agg [.lit .i64 0,.lit .i64 0,.bl false,.lit .u8 0],.st [(0,2),(1,3),(2,4),(3,6)]⟩)))) (br t 25
 (br t 22
 (br t 20
 (tb t 9 ⟨1,false,16,.val (.string ⟨#[]⟩),.str⟩) (tb t 20 ⟨1,false,16,.val Value.nilIface,.other⟩)) (br t 23
 (tb t 22 ⟨1,false,24,.val (.slice none 0 0),.slice 5⟩) (tb t 23 ⟨1,false,24,.val (.slice none 0 0),.slice 22⟩))) (br t 34
 (br t 28
 (tb t 25 ⟨4,true,80,.agg [.lit .i64 0,.val (.slice none 0 0),.val (.slice none 0 0),.val (.slice none 0 0)],.st [(0,3),(1,22),(2,22),(3,23)]⟩) (tb t 28 ⟨1,false,8,.lit .i64 0,.int .i64⟩)) (br t 41
 (tb t 34 ⟨1,false,8,.val (.pointer none),.ptr 109⟩) (tb t 41 ⟨1,false,8,.lit .u64 0,.int .u64⟩))))) (br t 81
 (br t 56
 (br t 44
 (tb t 42 ⟨8,true,64,.row .u64 8 [0,0,0,0,0,0,0,0],.arr 8 41⟩) (br t 48
 (tb t 44 ⟨8,true,64,.agg [.row .u64 8 [0,0,0,0,0,0,0,0]],.st [(0,42)]⟩) (tb t 48 ⟨16,true,128,.row .i64 16 [0,0,0,0,0,0,0,0,0,0,0,0,0,0,0,0],.arr 16 3⟩))) (br t 67
 (br t 58
 (tb t 56 ⟨24,true,192,.agg [.agg [.row .u64 8 [0,0,0,0,0,0,0,0]],.agg [.row .u64 8 [0,0,0,0,0,0,0,0]],.agg [.row .u64 8 [0,0,0,0,0,0,0,0]]],.st [(0,44),(8,44),(16,44)]⟩) (tb t 58 ⟨24,true,192,.agg [.agg [.agg [.row .u64 8 [0,0,0,0,0,0,0,0]],.agg [.row .u64 8 [0,0,0,0,0,0,0,0]],.agg [.row .u64 8 [0,0,0,0,0,0,0,0]]]],.st [(0,56)]⟩)) (br t 79
 (tb t 67 ⟨48,true,384,.agg [.row .i64 16 [0,0,0,0,0,0,0,0,0,0,0,0,0,0,0,0],.row .i64 16 [0,0,0,0,0,0,0,0,0,0,0,0,0,0,0,0],.row .i64 16 [0,0,0,0,0,0,0,0,0,0,0,0,0,0,0,0]],.st [(0,48),(16,48),(32,48)]⟩) (tb t 79 ⟨7,true,56,.row .u64 7 [0,0,0,0,0,0,0],.arr 7 41⟩)))) (br t 129
 (br t 117
 (br t 109
 (tb t 81 ⟨7,true,56,.row .u64 7 [0,0,0,0,0,0,0],.st [(0,79)]⟩) (tb t 109 ⟨3,true,72,.agg [.val (.slice none 0 0),.val (.slice none 0 0),.val (.slice none 0 0)],.st [(0,22),(1,22),(2,22)]⟩)) (br t 118
 (tb t 117 ⟨1,false,8,.val Value.nilFunc,.other⟩) (tb t 118 ⟨1,false,8,.val Value.nilFunc,.other⟩))) (br t 143
 (br t 142
 (tb t 129 ⟨1,false,8,.val Value.nilFunc,.other⟩) (tb t 142 ⟨1,false,24,.val (.slice none 0 0),.slice 41⟩)) (br t 153
 (tb t 143 ⟨1,false,24,.val (.slice none 0 0),.slice 41⟩) (tb t 153 ⟨1,false,8,.val Value.nilFunc,.other⟩)))))) (br t 217
 (br t 174
 (br t 160
 (br t 157
 (tb t 154 ⟨1,false,24,.val (.slice none 0 0),.slice 3⟩) (br t 159
 (tb t 157 ⟨1,false,24,.val (.slice none 0 0),.slice 56⟩) (tb t 159 ⟨1,false,8,.val Value.nilFunc,.other⟩))) (br t 170
 (br t 162
 (tb t 160 ⟨1,false,8,.val Value.nilFunc,.other⟩) (tb t 162 ⟨1,false,8,.lit .u64 0,.int .u64⟩)) (br t 173
 (tb t 170 ⟨1,false,8,.val (.pointer none),.ptr 235⟩) (tb t 173 ⟨1,false,8,.val Value.nilFunc,.other⟩)))) (br t 193
 (br t 188
 (br t 178
 (tb t 174 ⟨1,false,8,.val (.pointer none),.ptr 243⟩) (tb t 178 ⟨25,true,200,.row .u64 25 [0,0,0,0,0,0,0,0,0,0,0,0,0,0,0,0,0,0,0,0,0,0,0,0,0],.arr 25 41⟩)) (br t 192
 (tb t 188 ⟨1,false,8,.val Value.nilFunc,.other⟩) (tb t 192 ⟨2,true,16,.agg [.lit .u64 0,.lit .u64 0],.st [(0,41),(1,41)]⟩))) (br t 200
 (br t 197
 (tb t 193 ⟨30,true,240,.row .u64 30 [0,0,0,0,0,0,0,0,0,0,0,0,0,0,0,0,0,0,0,0,0,0,0,0,0,0,0,0,0,0],.arr 15 192⟩) (tb t 197 ⟨1,false,24,.val (.slice none 0 0),.slice 44⟩)) (br t 216
 (tb t 200 ⟨31,true,248,.row .i64 31 [0,0,0,0,0,0,0,0,0,0,0,0,0,0,0,0,0,0,0,0,0,0,0,0,0,0,0,0,0,0,0],.arr 31 3⟩) (tb t 216 ⟨1,false,8,.val Value.nilFunc,.other⟩))))) (br t 243
 (br t 227
 (br t 218
 (tb t 217 ⟨1,false,8,.val Value.nilFunc,.other⟩) (br t 224
 (tb t 218 ⟨2,true,48,.agg [.val (.slice none 0 0),.val (.slice none 0 0)],.arr 2 157⟩) (tb t 224 ⟨1,false,8,.val Value.nilFunc,.other⟩))) (br t 233
 (br t 228
 (tb t 227 ⟨1,true,8,.agg [.lit .i64 0],.st [(0,3)]⟩) (tb t 228 ⟨56,true,56,.row .u8 56 [0,0,0,0,0,0,0,0,0,0,0,0,0,0,0,0,0,0,0,0,0,0,0,0,0,0,0,0,0,0,0,0,0,0,0,0,0,0,0,0,0,0,0,0,0,0,0,0,0,0,0,0,0,0,0,0],.arr 56 5⟩)) (br t 235
 (tb t 233 ⟨25,true,200,.row .u64 25 [0,0,0,0,0,0,0,0,0,0,0,0,0,0,0,0,0,0,0,0,0,0,0,0,0],.arr 25 41⟩) (tb t 235 ⟨27,true,232,.agg [.row .u64 25 [0,0,0,0,0,0,0,0,0,0,0,0,0,0,0,0,0,0,0,0,0,0,0,0,0],.val (.slice none 0 0),.bl false],.st [(0,233),(25,22),(26,4)]⟩)))) (br t 256
 (br t 248
 (br t 245
 (tb t 243 ⟨3,true,40,.agg [.val (.slice none 0 0),.lit .i64 0,.lit .i64 0],.st [(0,157),(1,3),(2,3)]⟩) (tb t 245 ⟨25,true,200,.row .i64 25 [0,0,0,0,0,0,0,0,0,0,0,0,0,0,0,0,0,0,0,0,0,0,0,0,0],.arr 25 3⟩)) (br t 250
 (tb t 248 ⟨5,true,40,.row .u64 5 [0,0,0,0,0],.arr 5 41⟩) (tb t 250 ⟨1,false,8,.val Value.nilFunc,.other⟩))) (br t 264
 (br t 261
 (tb t 256 ⟨1,false,8,.val Value.nilFunc,.other⟩) (tb t 261 ⟨24,true,192,.row .u64 24 [0,0,0,0,0,0,0,0,0,0,0,0,0,0,0,0,0,0,0,0,0,0,0,0],.arr 24 41⟩)) (br t 265
 (tb t 264 ⟨1,false,8,.val (.pointer none),.ptr 233⟩) (tb t 265 ⟨24,true,192,.row .i64 24 [0,0,0,0,0,0,0,0,0,0,0,0,0,0,0,0,0,0,0,0,0,0,0,0],.arr 24 3⟩)))))))
theorem qt {t k:TypeId} {x ti:TI} (h:TyOk Go.Proofs.Tryz.prog k x):tb t k x=some ti → TyOk Go.Proofs.Tryz.prog t ti:=by
 unfold tb
 split
 · rename_i e;intro h2;cases h2;rw[Nat.eq_of_beq_eq_true e];exact h
 · intro h2;cases h2
theorem qv {t k:TypeId} {a b:Option TI} {ti:TI} (h1:a=some ti → TyOk Go.Proofs.Tryz.prog t ti) (h2:b=some ti → TyOk Go.Proofs.Tryz.prog t ti):br t k a b=some ti → TyOk Go.Proofs.Tryz.prog t ti:=by
 unfold br
 split<;>assumption
theorem T_ok : ∀ t ti,T t=some ti → TyOk Go.Proofs.Tryz.prog t ti:=fun t ti =>
 (qv (qv (qv (qv (qv (qt (qr Tryz.type1 Tryz.underlying1 (by rfl) (by rfl) (by rfl) (by rfl) (by rfl) (by rfl) (by rfl) (by rfl)))
 (qv (qt (qr Tryz.type2 Tryz.underlying2 (by rfl) (by rfl) (by rfl) (by rfl) (by rfl) (by rfl) (by rfl) (by rfl)))
 (qt (qr Tryz.type3 Tryz.underlying3 (by rfl) (by rfl) (by rfl) (by rfl) (by rfl) (by rfl) (by rfl) (by rfl)))))
 (qv (qv (qt (qr Tryz.type4 Tryz.underlying4 (by rfl) (by rfl) (by rfl) (by rfl) (by rfl) (by rfl) (by rfl) (by rfl)))
 (qt (qr Tryz.type5 Tryz.underlying5 (by rfl) (by rfl) (by rfl) (by rfl) (by rfl) (by rfl) (by rfl) (by rfl))))
 (qv (qt (qr Tryz.type6 Tryz.underlying6 (by rfl) (by rfl) (by rfl) (by rfl) (by rfl) (by rfl) (by rfl) (by rfl)))
 (qt (qr Tryz.type8 Tryz.underlying8 (by rfl) (by rfl) (by rfl) (by rfl) (by rfl) (by rfl) (by rfl) (by rfl))))))
 (qv (qv (qv (qt (qr Tryz.type9 Tryz.underlying9 (by rfl) (by rfl) (by rfl) (by rfl) (by rfl) (by rfl) (by rfl) (by rfl)))
 (qt (qr Tryz.type20 Tryz.underlying20 (by rfl) (by rfl) (by rfl) (by rfl) (by rfl) (by rfl) (by rfl) (by rfl))))
 (qv (qt (qr Tryz.type22 Tryz.underlying22 (by rfl) (by rfl) (by rfl) (by rfl) (by rfl) (by rfl) (by rfl) (by rfl)))
 (qt (qr Tryz.type23 Tryz.underlying23 (by rfl) (by rfl) (by rfl) (by rfl) (by rfl) (by rfl) (by rfl) (by rfl)))))
 (qv (qv (qt (qr Tryz.type25 Tryz.underlying25 (by rfl) (by rfl) (by rfl) (by rfl) (by rfl) (by rfl) (by rfl) (by rfl)))
 (qt (qr Tryz.type28 Tryz.underlying28 (by rfl) (by rfl) (by rfl) (by rfl) (by rfl) (by rfl) (by rfl) (by rfl))))
 (qv (qt (qr Tryz.type34 Tryz.underlying34 (by rfl) (by rfl) (by rfl) (by rfl) (by rfl) (by rfl) (by rfl) (by rfl)))
 (qt (qr Tryz.type41 Tryz.underlying41 (by rfl) (by rfl) (by rfl) (by rfl) (by rfl) (by rfl) (by rfl) (by rfl)))))))
 (qv (qv (qv (qt (qr Tryz.type42 Tryz.underlying42 (by rfl) (by rfl) (by rfl) (by rfl) (by rfl) (by rfl) (by rfl) (by rfl)))
 (qv (qt (qr Tryz.type44 Tryz.underlying44 (by rfl) (by rfl) (by rfl) (by rfl) (by rfl) (by rfl) (by rfl) (by rfl)))
 (qt (qr Tryz.type48 Tryz.underlying48 (by rfl) (by rfl) (by rfl) (by rfl) (by rfl) (by rfl) (by rfl) (by rfl)))))
 (qv (qv (qt (qr Tryz.type56 Tryz.underlying56 (by rfl) (by rfl) (by rfl) (by rfl) (by rfl) (by rfl) (by rfl) (by rfl)))
 (qt (qr Tryz.type58 Tryz.underlying58 (by rfl) (by rfl) (by rfl) (by rfl) (by rfl) (by rfl) (by rfl) (by rfl))))
 (qv (qt (qr Tryz.type67 Tryz.underlying67 (by rfl) (by rfl) (by rfl) (by rfl) (by rfl) (by rfl) (by rfl) (by rfl)))
 (qt (qr Tryz.type79 Tryz.underlying79 (by rfl) (by rfl) (by rfl) (by rfl) (by rfl) (by rfl) (by rfl) (by rfl))))))
 (qv (qv (qv (qt (qr Tryz.type81 Tryz.underlying81 (by rfl) (by rfl) (by rfl) (by rfl) (by rfl) (by rfl) (by rfl) (by rfl)))
 (qt (qr Tryz.type109 Tryz.underlying109 (by rfl) (by rfl) (by rfl) (by rfl) (by rfl) (by rfl) (by rfl) (by rfl))))
 (qv (qt (qr Tryz.type117 Tryz.underlying117 (by rfl) (by rfl) (by rfl) (by rfl) (by rfl) (by rfl) (by rfl) (by rfl)))
 (qt (qr Tryz.type118 Tryz.underlying118 (by rfl) (by rfl) (by rfl) (by rfl) (by rfl) (by rfl) (by rfl) (by rfl)))))
 (qv (qv (qt (qr Tryz.type129 Tryz.underlying129 (by rfl) (by rfl) (by rfl) (by rfl) (by rfl) (by rfl) (by rfl) (by rfl)))
 (qt (qr Tryz.type142 Tryz.underlying142 (by rfl) (by rfl) (by rfl) (by rfl) (by rfl) (by rfl) (by rfl) (by rfl))))
 (qv (qt (qr Tryz.type143 Tryz.underlying143 (by rfl) (by rfl) (by rfl) (by rfl) (by rfl) (by rfl) (by rfl) (by rfl)))
 (qt (qr Tryz.type153 Tryz.underlying153 (by rfl) (by rfl) (by rfl) (by rfl) (by rfl) (by rfl) (by rfl) (by rfl))))))))
 (qv (qv (qv (qv (qt (qr Tryz.type154 Tryz.underlying154 (by rfl) (by rfl) (by rfl) (by rfl) (by rfl) (by rfl) (by rfl) (by rfl)))
 (qv (qt (qr Tryz.type157 Tryz.underlying157 (by rfl) (by rfl) (by rfl) (by rfl) (by rfl) (by rfl) (by rfl) (by rfl)))
 (qt (qr Tryz.type159 Tryz.underlying159 (by rfl) (by rfl) (by rfl) (by rfl) (by rfl) (by rfl) (by rfl) (by rfl)))))
 (qv (qv (qt (qr Tryz.type160 Tryz.underlying160 (by rfl) (by rfl) (by rfl) (by rfl) (by rfl) (by rfl) (by rfl) (by rfl)))
 (qt (qr Tryz.type162 Tryz.underlying162 (by rfl) (by rfl) (by rfl) (by rfl) (by rfl) (by rfl) (by rfl) (by rfl))))
 (qv (qt (qr Tryz.type170 Tryz.underlying170 (by rfl) (by rfl) (by rfl) (by rfl) (by rfl) (by rfl) (by rfl) (by rfl)))
 (qt (qr Tryz.type173 Tryz.underlying173 (by rfl) (by rfl) (by rfl) (by rfl) (by rfl) (by rfl) (by rfl) (by rfl))))))
 (qv (qv (qv (qt (qr Tryz.type174 Tryz.underlying174 (by rfl) (by rfl) (by rfl) (by rfl) (by rfl) (by rfl) (by rfl) (by rfl)))
 (qt (qr Tryz.type178 Tryz.underlying178 (by rfl) (by rfl) (by rfl) (by rfl) (by rfl) (by rfl) (by rfl) (by rfl))))
 (qv (qt (qr Tryz.type188 Tryz.underlying188 (by rfl) (by rfl) (by rfl) (by rfl) (by rfl) (by rfl) (by rfl) (by rfl)))
 (qt (qr Tryz.type192 Tryz.underlying192 (by rfl) (by rfl) (by rfl) (by rfl) (by rfl) (by rfl) (by rfl) (by rfl)))))
 (qv (qv (qt (qr Tryz.type193 Tryz.underlying193 (by rfl) (by rfl) (by rfl) (by rfl) (by rfl) (by rfl) (by rfl) (by rfl)))
 (qt (qr Tryz.type197 Tryz.underlying197 (by rfl) (by rfl) (by rfl) (by rfl) (by rfl) (by rfl) (by rfl) (by rfl))))
 (qv (qt (qr Tryz.type200 Tryz.underlying200 (by rfl) (by rfl) (by rfl) (by rfl) (by rfl) (by rfl) (by rfl) (by rfl)))
 (qt (qr Tryz.type216 Tryz.underlying216 (by rfl) (by rfl) (by rfl) (by rfl) (by rfl) (by rfl) (by rfl) (by rfl)))))))
 (qv (qv (qv (qt (qr Tryz.type217 Tryz.underlying217 (by rfl) (by rfl) (by rfl) (by rfl) (by rfl) (by rfl) (by rfl) (by rfl)))
 (qv (qt (qr Tryz.type218 Tryz.underlying218 (by rfl) (by rfl) (by rfl) (by rfl) (by rfl) (by rfl) (by rfl) (by rfl)))
 (qt (qr Tryz.type224 Tryz.underlying224 (by rfl) (by rfl) (by rfl) (by rfl) (by rfl) (by rfl) (by rfl) (by rfl)))))
 (qv (qv (qt (qr Tryz.type227 Tryz.underlying227 (by rfl) (by rfl) (by rfl) (by rfl) (by rfl) (by rfl) (by rfl) (by rfl)))
 (qt (qr Tryz.type228 Tryz.underlying228 (by rfl) (by rfl) (by rfl) (by rfl) (by rfl) (by rfl) (by rfl) (by rfl))))
 (qv (qt (qr Tryz.type233 Tryz.underlying233 (by rfl) (by rfl) (by rfl) (by rfl) (by rfl) (by rfl) (by rfl) (by rfl)))
 (qt (qr Tryz.type235 Tryz.underlying235 (by rfl) (by rfl) (by rfl) (by rfl) (by rfl) (by rfl) (by rfl) (by rfl))))))
 (qv (qv (qv (qt (qr Tryz.type243 Tryz.underlying243 (by rfl) (by rfl) (by rfl) (by rfl) (by rfl) (by rfl) (by rfl) (by rfl)))
 (qt (qr Tryz.type245 Tryz.underlying245 (by rfl) (by rfl) (by rfl) (by rfl) (by rfl) (by rfl) (by rfl) (by rfl))))
 (qv (qt (qr Tryz.type248 Tryz.underlying248 (by rfl) (by rfl) (by rfl) (by rfl) (by rfl) (by rfl) (by rfl) (by rfl)))
 (qt (qr Tryz.type250 Tryz.underlying250 (by rfl) (by rfl) (by rfl) (by rfl) (by rfl) (by rfl) (by rfl) (by rfl)))))
 (qv (qv (qt (qr Tryz.type256 Tryz.underlying256 (by rfl) (by rfl) (by rfl) (by rfl) (by rfl) (by rfl) (by rfl) (by rfl)))
 (qt (qr Tryz.type261 Tryz.underlying261 (by rfl) (by rfl) (by rfl) (by rfl) (by rfl) (by rfl) (by rfl) (by rfl))))
 (qv (qt (qr Tryz.type264 Tryz.underlying264 (by rfl) (by rfl) (by rfl) (by rfl) (by rfl) (by rfl) (by rfl) (by rfl)))
 (qt (qr Tryz.type265 Tryz.underlying265 (by rfl) (by rfl) (by rfl) (by rfl) (by rfl) (by rfl) (by rfl) (by rfl)))))))))
end Go.Sx.Tryz
end
