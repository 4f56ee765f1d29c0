/-
  Part of the proof of a statement: the means.
-/
import Derived.Test.YtfgejoocodofoaaGreatChecked
import Derived.Test.YtfgejoocodofoaaGreatX3
set_option linter.unusedSectionVars false
set_option linter.unusedVariables false
set_option linter.unusedSimpArgs false
set_option linter.deprecated false
section
set_option maxRecDepth 100000
namespace Go.Sx.Tryz
open Go.Proofs
def ty1 : TI := ⟨1, false, 8, .val Value.nilFunc, .other⟩
def ty2 : TI := ⟨1, false, 8, .lit .i64 0, .int .i64⟩
def ty3 : TI := ⟨1, false, 8, .lit .i64 0, .int .i64⟩
def ty4 : TI := ⟨1, false, 1, .bl false, .bool⟩
def ty5 : TI := ⟨1, false, 1, .lit .u8 0, .int .u8⟩
def ty6 : TI := ⟨1, false, 1, .lit .u8 0, .int .u8⟩
def ty7 : TI := ⟨4, true, 24, .agg [.lit .i64 0, .lit .i64 0, .bl false, .lit .u8 0], .st [(0, 2), (1, 3), (2, 4), (3, 6)]⟩
def ty8 : TI := ⟨4, true, 24, .agg [.lit .i64 0, .lit .i64 0, .bl false, .lit .u8 0], .st [(0, 2), (1, 3), (2, 4), (3, 6)]⟩
def ty9 : TI := ⟨1, false, 16, .val (.string ⟨#[]⟩), .str⟩
def ty10 : TI := ⟨1, false, 16, .val (.string ⟨#[]⟩), .str⟩
def ty11 : TI := ⟨1, false, 16, .val (.string ⟨#[]⟩), .str⟩
def ty12 : TI := ⟨1, false, 8, .lit .u64 0, .int .u64⟩
def ty13 : TI := ⟨2, true, 24, .agg [.val (.string ⟨#[]⟩), .lit .u64 0], .st [(0, 9), (1, 12)]⟩
def ty14 : TI := ⟨2, true, 24, .agg [.val (.string ⟨#[]⟩), .lit .u64 0], .st [(0, 9), (1, 12)]⟩
def ty15 : TI := ⟨1, false, 8, .val (.pointer none), .ptr 208⟩
def ty16 : TI := ⟨1, false, 8, .val (.pointer none), .ptr 211⟩
def ty17 : TI := ⟨1, false, 8, .val (.pointer none), .ptr 221⟩
def ty18 : TI := ⟨1, true, 8, .agg [.val (.pointer none)], .st [(0, 17)]⟩
def ty19 : TI := ⟨1, true, 8, .agg [.val (.pointer none)], .st [(0, 17)]⟩
def ty20 : TI := ⟨1, false, 16, .val Value.nilIface, .other⟩
def ty21 : TI := ⟨1, false, 4, .lit .i32 0, .int .i32⟩
def ty22 : TI := ⟨1, false, 24, .val (.slice none 0 0), .slice 5⟩
def ty23 : TI := ⟨2, true, 32, .agg [.val (.slice none 0 0), .lit .i64 0], .st [(0, 22), (1, 3)]⟩
def ty24 : TI := ⟨2, true, 32, .agg [.val (.slice none 0 0), .lit .i64 0], .st [(0, 22), (1, 3)]⟩
def ty25 : TI := ⟨2, true, 16, .row .i64 2 [0, 0], .arr 2 3⟩
def ty26 : TI := ⟨1, false, 8, .val Value.nilFunc, .other⟩
def ty27 : TI := ⟨1, false, 8, .lit .u64 0, .int .u64⟩
def ty28 : TI := ⟨8, true, 64, .row .u64 8 [0, 0, 0, 0, 0, 0, 0, 0], .arr 8 27⟩
def ty29 : TI := ⟨8, true, 64, .agg [.row .u64 8 [0, 0, 0, 0, 0, 0, 0, 0]], .st [(0, 28)]⟩
def ty30 : TI := ⟨8, true, 64, .agg [.row .u64 8 [0, 0, 0, 0, 0, 0, 0, 0]], .st [(0, 28)]⟩
def ty31 : TI := ⟨24, true, 192, .agg [.agg [.row .u64 8 [0, 0, 0, 0, 0, 0, 0, 0]], .agg [.row .u64 8 [0, 0, 0, 0, 0, 0, 0, 0]], .agg [.row .u64 8 [0, 0, 0, 0, 0, 0, 0, 0]]], .st [(0, 30), (8, 30), (16, 30)]⟩
def ty32 : TI := ⟨24, true, 192, .agg [.agg [.row .u64 8 [0, 0, 0, 0, 0, 0, 0, 0]], .agg [.row .u64 8 [0, 0, 0, 0, 0, 0, 0, 0]], .agg [.row .u64 8 [0, 0, 0, 0, 0, 0, 0, 0]]], .st [(0, 30), (8, 30), (16, 30)]⟩
def ty33 : TI := ⟨24, true, 192, .agg [.agg [.agg [.row .u64 8 [0, 0, 0, 0, 0, 0, 0, 0]], .agg [.row .u64 8 [0, 0, 0, 0, 0, 0, 0, 0]], .agg [.row .u64 8 [0, 0, 0, 0, 0, 0, 0, 0]]]], .st [(0, 32)]⟩
def ty34 : TI := ⟨24, true, 192, .agg [.agg [.agg [.row .u64 8 [0, 0, 0, 0, 0, 0, 0, 0]], .agg [.row .u64 8 [0, 0, 0, 0, 0, 0, 0, 0]], .agg [.row .u64 8 [0, 0, 0, 0, 0, 0, 0, 0]]]], .st [(0, 32)]⟩
def ty35 : TI := ⟨16, true, 128, .row .i64 16 [0, 0, 0, 0, 0, 0, 0, 0, 0, 0, 0, 0, 0, 0, 0, 0], .arr 16 3⟩
def ty36 : TI := ⟨16, true, 128, .row .i64 16 [0, 0, 0, 0, 0, 0, 0, 0, 0, 0, 0, 0, 0, 0, 0, 0], .arr 16 3⟩
def ty37 : TI := ⟨48, true, 384, .agg [.row .i64 16 [0, 0, 0, 0, 0, 0, 0, 0, 0, 0, 0, 0, 0, 0, 0, 0], .row .i64 16 [0, 0, 0, 0, 0, 0, 0, 0, 0, 0, 0, 0, 0, 0, 0, 0], .row .i64 16 [0, 0, 0, 0, 0, 0, 0, 0, 0, 0, 0, 0, 0, 0, 0, 0]], .st [(0, 36), (16, 36), (32, 36)]⟩
def ty38 : TI := ⟨48, true, 384, .agg [.row .i64 16 [0, 0, 0, 0, 0, 0, 0, 0, 0, 0, 0, 0, 0, 0, 0, 0], .row .i64 16 [0, 0, 0, 0, 0, 0, 0, 0, 0, 0, 0, 0, 0, 0, 0, 0], .row .i64 16 [0, 0, 0, 0, 0, 0, 0, 0, 0, 0, 0, 0, 0, 0, 0, 0]], .st [(0, 36), (16, 36), (32, 36)]⟩
def ty40 : TI := ⟨1, false, 8, .val Value.nilFunc, .other⟩
def ty41 : TI := ⟨1, false, 8, .val Value.nilFunc, .other⟩
def ty42 : TI := ⟨1, false, 8, .lit .i64 0, .int .i64⟩
def ty44 : TI := ⟨1, false, 8, .val Value.nilFunc, .other⟩
def ty46 : TI := ⟨1, false, 8, .val Value.nilFunc, .other⟩
def ty47 : TI := ⟨1, false, 8, .val Value.nilFunc, .other⟩
def ty48 : TI := ⟨1, false, 8, .val Value.nilFunc, .other⟩
def ty49 : TI := ⟨1, false, 8, .val Value.nilFunc, .other⟩
def ty50 : TI := ⟨1, false, 8, .val Value.nilFunc, .other⟩
def ty51 : TI := ⟨4, true, 64, .agg [.agg [.val (.slice none 0 0), .lit .i64 0], .agg [.val (.slice none 0 0), .lit .i64 0]], .arr 2 24⟩
def ty53 : TI := ⟨1, false, 8, .val Value.nilFunc, .other⟩
def ty54 : TI := ⟨1, false, 8, .val Value.nilFunc, .other⟩
def ty55 : TI := ⟨1, false, 8, .val Value.nilFunc, .other⟩
def ty56 : TI := ⟨1, false, 8, .val Value.nilFunc, .other⟩
def ty57 : TI := ⟨1, false, 8, .val Value.nilFunc, .other⟩
def ty58 : TI := ⟨1, false, 8, .val Value.nilFunc, .other⟩
def ty59 : TI := ⟨1, false, 8, .val Value.nilFunc, .other⟩
def ty60 : TI := ⟨1, false, 8, .val Value.nilFunc, .other⟩
def ty61 : TI := ⟨1, false, 8, .val Value.nilFunc, .other⟩
def ty63 : TI := ⟨1, false, 8, .val Value.nilFunc, .other⟩
def ty64 : TI := ⟨1, false, 8, .val Value.nilFunc, .other⟩
def ty65 : TI := ⟨1, false, 8, .val Value.nilFunc, .other⟩
def ty66 : TI := ⟨1, false, 8, .val Value.nilFunc, .other⟩
def ty67 : TI := ⟨1, false, 8, .val Value.nilFunc, .other⟩
def ty68 : TI := ⟨1, false, 8, .val Value.nilFunc, .other⟩
def ty69 : TI := ⟨7, true, 56, .row .u64 7 [0, 0, 0, 0, 0, 0, 0], .arr 7 27⟩
def ty70 : TI := ⟨7, true, 56, .agg [.row .u64 7 [0, 0, 0, 0, 0, 0, 0]], .st [(0, 69)]⟩
def ty71 : TI := ⟨7, true, 56, .agg [.row .u64 7 [0, 0, 0, 0, 0, 0, 0]], .st [(0, 69)]⟩
def ty72 : TI := ⟨1, false, 8, .val Value.nilFunc, .other⟩
def ty73 : TI := ⟨1, false, 8, .val Value.nilFunc, .other⟩
def ty74 : TI := ⟨1, false, 8, .val Value.nilFunc, .other⟩
def ty75 : TI := ⟨2, true, 48, .agg [.val (.slice none 0 0), .val (.slice none 0 0)], .arr 2 22⟩
def ty77 : TI := ⟨1, false, 8, .val Value.nilFunc, .other⟩
def ty78 : TI := ⟨1, false, 8, .val Value.nilFunc, .other⟩
def ty79 : TI := ⟨1, false, 8, .val Value.nilFunc, .other⟩
def ty80 : TI := ⟨1, false, 8, .val Value.nilFunc, .other⟩
def ty81 : TI := ⟨1, false, 8, .val Value.nilFunc, .other⟩
def ty82 : TI := ⟨1, false, 8, .val Value.nilFunc, .other⟩
def ty83 : TI := ⟨1, false, 8, .val Value.nilFunc, .other⟩
def ty84 : TI := ⟨1, false, 8, .val Value.nilFunc, .other⟩
def ty86 : TI := ⟨1, false, 8, .val Value.nilFunc, .other⟩
def ty87 : TI := ⟨1, false, 8, .val Value.nilFunc, .other⟩
def ty88 : TI := ⟨1, false, 8, .val Value.nilFunc, .other⟩
def ty90 : TI := ⟨1, false, 8, .val Value.nilFunc, .other⟩
def ty91 : TI := ⟨1, false, 8, .val Value.nilFunc, .other⟩
def ty92 : TI := ⟨1, false, 8, .val Value.nilFunc, .other⟩
def ty93 : TI := ⟨1, false, 8, .val Value.nilFunc, .other⟩
def ty94 : TI := ⟨1, false, 8, .val Value.nilFunc, .other⟩
def ty96 : TI := ⟨1, false, 8, .val Value.nilFunc, .other⟩
def ty97 : TI := ⟨1, false, 8, .val Value.nilFunc, .other⟩
def ty98 : TI := ⟨1, false, 8, .val Value.nilFunc, .other⟩
def ty99 : TI := ⟨1, false, 8, .val Value.nilFunc, .other⟩
def ty100 : TI := ⟨1, false, 8, .val Value.nilFunc, .other⟩
def ty101 : TI := ⟨1, false, 8, .val Value.nilFunc, .other⟩
def ty103 : TI := ⟨1, false, 8, .val Value.nilFunc, .other⟩
def ty104 : TI := ⟨1, false, 8, .val Value.nilFunc, .other⟩
def ty106 : TI := ⟨1, false, 8, .val Value.nilFunc, .other⟩
def ty108 : TI := ⟨1, false, 8, .val Value.nilFunc, .other⟩
def ty109 : TI := ⟨1, false, 8, .val Value.nilFunc, .other⟩
def ty110 : TI := ⟨1, false, 8, .val Value.nilFunc, .other⟩
def ty111 : TI := ⟨1, false, 8, .val Value.nilFunc, .other⟩
def ty112 : TI := ⟨1, false, 8, .val Value.nilFunc, .other⟩
def ty113 : TI := ⟨1, false, 8, .val Value.nilFunc, .other⟩
def ty114 : TI := ⟨1, false, 8, .val Value.nilFunc, .other⟩
def ty115 : TI := ⟨1, false, 8, .val Value.nilFunc, .other⟩
def ty116 : TI := ⟨1, false, 8, .val Value.nilFunc, .other⟩
def ty117 : TI := ⟨1, false, 8, .val Value.nilFunc, .other⟩
def ty118 : TI := ⟨1, false, 8, .val Value.nilFunc, .other⟩
def ty119 : TI := ⟨1, false, 8, .val Value.nilFunc, .other⟩
def ty120 : TI := ⟨1, false, 8, .val Value.nilFunc, .other⟩
def ty121 : TI := ⟨1, false, 8, .val Value.nilFunc, .other⟩
def ty122 : TI := ⟨1, false, 8, .val Value.nilFunc, .other⟩
def ty123 : TI := ⟨1, false, 8, .val Value.nilFunc, .other⟩
def ty124 : TI := ⟨1, false, 8, .val Value.nilFunc, .other⟩
def ty125 : TI := ⟨1, false, 8, .val Value.nilFunc, .other⟩
def ty126 : TI := ⟨1, false, 8, .val Value.nilFunc, .other⟩
def ty127 : TI := ⟨1, false, 8, .val Value.nilFunc, .other⟩
def ty128 : TI := ⟨1, false, 8, .val Value.nilFunc, .other⟩
def ty129 : TI := ⟨1, false, 24, .val (.slice none 0 0), .slice 27⟩
def ty130 : TI := ⟨1, false, 24, .val (.slice none 0 0), .slice 27⟩
def ty131 : TI := ⟨1, false, 24, .val (.slice none 0 0), .slice 34⟩
def ty133 : TI := ⟨1, false, 8, .val Value.nilFunc, .other⟩
def ty134 : TI := ⟨1, false, 8, .val Value.nilFunc, .other⟩
def ty135 : TI := ⟨1, false, 8, .val Value.nilFunc, .other⟩
def ty136 : TI := ⟨1, false, 8, .val Value.nilFunc, .other⟩
def ty137 : TI := ⟨1, false, 8, .val Value.nilFunc, .other⟩
def ty138 : TI := ⟨1, false, 8, .val Value.nilFunc, .other⟩
def ty139 : TI := ⟨1, false, 8, .val Value.nilFunc, .other⟩
def ty140 : TI := ⟨1, false, 8, .val Value.nilFunc, .other⟩
def ty141 : TI := ⟨31, true, 248, .row .i64 31 [0, 0, 0, 0, 0, 0, 0, 0, 0, 0, 0, 0, 0, 0, 0, 0, 0, 0, 0, 0, 0, 0, 0, 0, 0, 0, 0, 0, 0, 0, 0], .arr 31 3⟩
def ty142 : TI := ⟨1, false, 24, .val (.slice none 0 0), .slice 3⟩
def ty143 : TI := ⟨1, false, 8, .val Value.nilFunc, .other⟩
def ty144 : TI := ⟨1, false, 8, .val Value.nilFunc, .other⟩
def ty145 : TI := ⟨1, false, 8, .lit .u64 0, .int .u64⟩
def ty146 : TI := ⟨1, false, 8, .val Value.nilFunc, .other⟩
def ty147 : TI := ⟨1, false, 8, .val Value.nilFunc, .other⟩
def ty148 : TI := ⟨1, false, 8, .val Value.nilFunc, .other⟩
def ty149 : TI := ⟨1, false, 24, .val (.slice none 0 0), .slice 30⟩
def ty150 : TI := ⟨1, false, 8, .val Value.nilFunc, .other⟩
def ty151 : TI := ⟨1, false, 8, .val Value.nilFunc, .other⟩
def ty152 : TI := ⟨1, false, 8, .val Value.nilFunc, .other⟩
def ty153 : TI := ⟨2, true, 16, .agg [.lit .u64 0, .lit .u64 0], .st [(0, 27), (1, 27)]⟩
def ty154 : TI := ⟨2, true, 16, .agg [.lit .u64 0, .lit .u64 0], .st [(0, 27), (1, 27)]⟩
def ty155 : TI := ⟨30, true, 240, .row .u64 30 [0, 0, 0, 0, 0, 0, 0, 0, 0, 0, 0, 0, 0, 0, 0, 0, 0, 0, 0, 0, 0, 0, 0, 0, 0, 0, 0, 0, 0, 0], .arr 15 154⟩
def ty156 : TI := ⟨1, false, 8, .val Value.nilFunc, .other⟩
def ty157 : TI := ⟨1, false, 8, .val Value.nilFunc, .other⟩
def ty158 : TI := ⟨1, false, 8, .val Value.nilFunc, .other⟩
def ty159 : TI := ⟨1, true, 8, .agg [.lit .i64 0], .st [(0, 3)]⟩
def ty160 : TI := ⟨1, true, 8, .agg [.lit .i64 0], .st [(0, 3)]⟩
def ty161 : TI := ⟨1, false, 8, .val Value.nilFunc, .other⟩
def ty162 : TI := ⟨1, false, 8, .val Value.nilFunc, .other⟩
def ty163 : TI := ⟨1, false, 8, .val Value.nilFunc, .other⟩
def ty165 : TI := ⟨1, false, 8, .val Value.nilFunc, .other⟩
def ty166 : TI := ⟨1, false, 24, .val (.slice none 0 0), .slice 32⟩
def ty167 : TI := ⟨1, false, 8, .val Value.nilFunc, .other⟩
def ty168 : TI := ⟨1, false, 8, .val Value.nilFunc, .other⟩
def ty169 : TI := ⟨1, false, 8, .val Value.nilFunc, .other⟩
def ty170 : TI := ⟨1, false, 8, .val Value.nilFunc, .other⟩
def ty171 : TI := ⟨1, false, 8, .val Value.nilFunc, .other⟩
def ty173 : TI := ⟨1, false, 8, .val Value.nilFunc, .other⟩
def ty174 : TI := ⟨1, false, 8, .val Value.nilFunc, .other⟩
def ty175 : TI := ⟨1, false, 8, .val Value.nilFunc, .other⟩
def ty177 : TI := ⟨1, false, 8, .val Value.nilFunc, .other⟩
def ty178 : TI := ⟨1, false, 8, .val Value.nilFunc, .other⟩
def ty179 : TI := ⟨1, false, 8, .val Value.nilFunc, .other⟩
def ty180 : TI := ⟨1, false, 8, .val Value.nilFunc, .other⟩
def ty181 : TI := ⟨1, false, 8, .val Value.nilFunc, .other⟩
def ty183 : TI := ⟨1, false, 8, .val Value.nilFunc, .other⟩
def ty184 : TI := ⟨1, false, 24, .val (.slice none 0 0), .slice 22⟩
def ty185 : TI := ⟨1, false, 8, .val Value.nilFunc, .other⟩
def ty186 : TI := ⟨2, true, 48, .agg [.val (.slice none 0 0), .val (.slice none 0 0)], .arr 2 166⟩
def ty187 : TI := ⟨1, false, 8, .val Value.nilFunc, .other⟩
def ty188 : TI := ⟨1, false, 8, .val Value.nilFunc, .other⟩
def ty190 : TI := ⟨1, false, 8, .val Value.nilFunc, .other⟩
def ty191 : TI := ⟨1, false, 8, .val Value.nilFunc, .other⟩
def ty192 : TI := ⟨1, false, 8, .val Value.nilFunc, .other⟩
def ty193 : TI := ⟨56, true, 56, .row .u8 56 [0, 0, 0, 0, 0, 0, 0, 0, 0, 0, 0, 0, 0, 0, 0, 0, 0, 0, 0, 0, 0, 0, 0, 0, 0, 0, 0, 0, 0, 0, 0, 0, 0, 0, 0, 0, 0, 0, 0, 0, 0, 0, 0, 0, 0, 0, 0, 0, 0, 0, 0, 0, 0, 0, 0, 0], .arr 56 5⟩
def ty194 : TI := ⟨1, false, 8, .val Value.nilFunc, .other⟩
def ty195 : TI := ⟨1, false, 8, .val Value.nilFunc, .other⟩
def ty196 : TI := ⟨1, false, 8, .val Value.nilFunc, .other⟩
def ty197 : TI := ⟨1, false, 8, .val Value.nilFunc, .other⟩
def ty198 : TI := ⟨1, false, 8, .val Value.nilFunc, .other⟩
def ty199 : TI := ⟨1, false, 8, .val Value.nilFunc, .other⟩
def ty200 : TI := ⟨1, false, 8, .val Value.nilFunc, .other⟩
def ty201 : TI := ⟨1, false, 8, .val Value.nilFunc, .other⟩
def ty202 : TI := ⟨1, false, 8, .val Value.nilFunc, .other⟩
def ty203 : TI := ⟨1, false, 8, .val Value.nilFunc, .other⟩
def ty204 : TI := ⟨1, false, 8, .val Value.nilFunc, .other⟩
def ty205 : TI := ⟨1, false, 8, .val Value.nilFunc, .other⟩
def ty206 : TI := ⟨1, false, 8, .val Value.nilFunc, .other⟩
def ty207 : TI := ⟨4, true, 40, .agg [.val (.pointer none), .val (.pointer none), .val (.pointer none), .val (.string ⟨#[]⟩)], .st [(0, 17), (1, 17), (2, 17), (3, 9)]⟩
def ty208 : TI := ⟨4, true, 40, .agg [.val (.pointer none), .val (.pointer none), .val (.pointer none), .val (.string ⟨#[]⟩)], .st [(0, 17), (1, 17), (2, 17), (3, 9)]⟩
def ty212 : TI := ⟨1, false, 8, .val Value.nilFunc, .other⟩
def ty213 : TI := ⟨1, false, 4, .lit .u32 0, .int .u32⟩
def ty214 : TI := ⟨1, false, 1, .lit .u8 0, .int .u8⟩
def ty215 : TI := ⟨1, false, 1, .lit .u8 0, .int .u8⟩
def ty216 : TI := ⟨1, false, 8, .val Value.nilFunc, .other⟩
def ty217 : TI := ⟨1, false, 8, .val (.pointer none), .ptr 5⟩
def ty218 : TI := ⟨1, false, 4, .lit .i32 0, .int .i32⟩
def ty219 : TI := ⟨1, false, 4, .lit .i32 0, .int .i32⟩
def ty220 : TI := ⟨11, true, 48, .agg [.lit .u64 0, .lit .u64 0, .lit .u32 0, .lit .u8 0, .lit .u8 0, .lit .u8 0, .lit .u8 0, .val Value.nilFunc, .val (.pointer none), .lit .i32 0, .lit .i32 0], .st [(0, 12), (1, 12), (2, 213), (3, 214), (4, 5), (5, 5), (6, 215), (7, 216), (8, 217), (9, 218), (10, 219)]⟩
def ty221 : TI := ⟨11, true, 48, .agg [.lit .u64 0, .lit .u64 0, .lit .u32 0, .lit .u8 0, .lit .u8 0, .lit .u8 0, .lit .u8 0, .val Value.nilFunc, .val (.pointer none), .lit .i32 0, .lit .i32 0], .st [(0, 12), (1, 12), (2, 213), (3, 214), (4, 5), (5, 5), (6, 215), (7, 216), (8, 217), (9, 218), (10, 219)]⟩
def T (t : TypeId) : Option TI :=
 match Nat.blt t 113 with
 | true => (match Nat.blt t 55 with
  | true => (match Nat.blt t 26 with
   | true => (match Nat.blt t 13 with
    | true => (match Nat.blt t 7 with
     | true => (match Nat.blt t 4 with
      | true => (match Nat.blt t 2 with
       | true => (match Nat.beq t 1 with | true => some ty1 | false => none)
       | false => (match Nat.blt t 3 with
        | true => (match Nat.beq t 2 with | true => some ty2 | false => none)
        | false => (match Nat.beq t 3 with | true => some ty3 | false => none)))
      | false => (match Nat.blt t 5 with
       | true => (match Nat.beq t 4 with | true => some ty4 | false => none)
       | false => (match Nat.blt t 6 with
        | true => (match Nat.beq t 5 with | true => some ty5 | false => none)
        | false => (match Nat.beq t 6 with | true => some ty6 | false => none))))
     | false => (match Nat.blt t 10 with
      | true => (match Nat.blt t 8 with
       | true => (match Nat.beq t 7 with | true => some ty7 | false => none)
       | false => (match Nat.blt t 9 with
        | true => (match Nat.beq t 8 with | true => some ty8 | false => none)
        | false => (match Nat.beq t 9 with | true => some ty9 | false => none)))
      | false => (match Nat.blt t 11 with
       | true => (match Nat.beq t 10 with | true => some ty10 | false => none)
       | false => (match Nat.blt t 12 with
        | true => (match Nat.beq t 11 with | true => some ty11 | false => none)
        | false => (match Nat.beq t 12 with | true => some ty12 | false => none)))))
    | false => (match Nat.blt t 19 with
     | true => (match Nat.blt t 16 with
      | true => (match Nat.blt t 14 with
       | true => (match Nat.beq t 13 with | true => some ty13 | false => none)
       | false => (match Nat.blt t 15 with
        | true => (match Nat.beq t 14 with | true => some ty14 | false => none)
        | false => (match Nat.beq t 15 with | true => some ty15 | false => none)))
      | false => (match Nat.blt t 17 with
       | true => (match Nat.beq t 16 with | true => some ty16 | false => none)
       | false => (match Nat.blt t 18 with
        | true => (match Nat.beq t 17 with | true => some ty17 | false => none)
        | false => (match Nat.beq t 18 with | true => some ty18 | false => none))))
     | false => (match Nat.blt t 22 with
      | true => (match Nat.blt t 20 with
       | true => (match Nat.beq t 19 with | true => some ty19 | false => none)
       | false => (match Nat.blt t 21 with
        | true => (match Nat.beq t 20 with | true => some ty20 | false => none)
        | false => (match Nat.beq t 21 with | true => some ty21 | false => none)))
      | false => (match Nat.blt t 24 with
       | true => (match Nat.blt t 23 with
        | true => (match Nat.beq t 22 with | true => some ty22 | false => none)
        | false => (match Nat.beq t 23 with | true => some ty23 | false => none))
       | false => (match Nat.blt t 25 with
        | true => (match Nat.beq t 24 with | true => some ty24 | false => none)
        | false => (match Nat.beq t 25 with | true => some ty25 | false => none))))))
   | false => (match Nat.blt t 38 with
    | true => (match Nat.blt t 32 with
     | true => (match Nat.blt t 29 with
      | true => (match Nat.blt t 27 with
       | true => (match Nat.beq t 26 with | true => some ty26 | false => none)
       | false => (match Nat.blt t 28 with
        | true => (match Nat.beq t 27 with | true => some ty27 | false => none)
        | false => (match Nat.beq t 28 with | true => some ty28 | false => none)))
      | false => (match Nat.blt t 30 with
       | true => (match Nat.beq t 29 with | true => some ty29 | false => none)
       | false => (match Nat.blt t 31 with
        | true => (match Nat.beq t 30 with | true => some ty30 | false => none)
        | false => (match Nat.beq t 31 with | true => some ty31 | false => none))))
     | false => (match Nat.blt t 35 with
      | true => (match Nat.blt t 33 with
       | true => (match Nat.beq t 32 with | true => some ty32 | false => none)
       | false => (match Nat.blt t 34 with
        | true => (match Nat.beq t 33 with | true => some ty33 | false => none)
        | false => (match Nat.beq t 34 with | true => some ty34 | false => none)))
      | false => (match Nat.blt t 36 with
       | true => (match Nat.beq t 35 with | true => some ty35 | false => none)
       | false => (match Nat.blt t 37 with
        | true => (match Nat.beq t 36 with | true => some ty36 | false => none)
        | false => (match Nat.beq t 37 with | true => some ty37 | false => none)))))
    | false => (match Nat.blt t 47 with
     | true => (match Nat.blt t 42 with
      | true => (match Nat.blt t 40 with
       | true => (match Nat.beq t 38 with | true => some ty38 | false => none)
       | false => (match Nat.blt t 41 with
        | true => (match Nat.beq t 40 with | true => some ty40 | false => none)
        | false => (match Nat.beq t 41 with | true => some ty41 | false => none)))
      | false => (match Nat.blt t 44 with
       | true => (match Nat.beq t 42 with | true => some ty42 | false => none)
       | false => (match Nat.blt t 46 with
        | true => (match Nat.beq t 44 with | true => some ty44 | false => none)
        | false => (match Nat.beq t 46 with | true => some ty46 | false => none))))
     | false => (match Nat.blt t 50 with
      | true => (match Nat.blt t 48 with
       | true => (match Nat.beq t 47 with | true => some ty47 | false => none)
       | false => (match Nat.blt t 49 with
        | true => (match Nat.beq t 48 with | true => some ty48 | false => none)
        | false => (match Nat.beq t 49 with | true => some ty49 | false => none)))
      | false => (match Nat.blt t 53 with
       | true => (match Nat.blt t 51 with
        | true => (match Nat.beq t 50 with | true => some ty50 | false => none)
        | false => (match Nat.beq t 51 with | true => some ty51 | false => none))
       | false => (match Nat.blt t 54 with
        | true => (match Nat.beq t 53 with | true => some ty53 | false => none)
        | false => (match Nat.beq t 54 with | true => some ty54 | false => none)))))))
  | false => (match Nat.blt t 82 with
   | true => (match Nat.blt t 68 with
    | true => (match Nat.blt t 61 with
     | true => (match Nat.blt t 58 with
      | true => (match Nat.blt t 56 with
       | true => (match Nat.beq t 55 with | true => some ty55 | false => none)
       | false => (match Nat.blt t 57 with
        | true => (match Nat.beq t 56 with | true => some ty56 | false => none)
        | false => (match Nat.beq t 57 with | true => some ty57 | false => none)))
      | false => (match Nat.blt t 59 with
       | true => (match Nat.beq t 58 with | true => some ty58 | false => none)
       | false => (match Nat.blt t 60 with
        | true => (match Nat.beq t 59 with | true => some ty59 | false => none)
        | false => (match Nat.beq t 60 with | true => some ty60 | false => none))))
     | false => (match Nat.blt t 65 with
      | true => (match Nat.blt t 63 with
       | true => (match Nat.beq t 61 with | true => some ty61 | false => none)
       | false => (match Nat.blt t 64 with
        | true => (match Nat.beq t 63 with | true => some ty63 | false => none)
        | false => (match Nat.beq t 64 with | true => some ty64 | false => none)))
      | false => (match Nat.blt t 66 with
       | true => (match Nat.beq t 65 with | true => some ty65 | false => none)
       | false => (match Nat.blt t 67 with
        | true => (match Nat.beq t 66 with | true => some ty66 | false => none)
        | false => (match Nat.beq t 67 with | true => some ty67 | false => none)))))
    | false => (match Nat.blt t 74 with
     | true => (match Nat.blt t 71 with
      | true => (match Nat.blt t 69 with
       | true => (match Nat.beq t 68 with | true => some ty68 | false => none)
       | false => (match Nat.blt t 70 with
        | true => (match Nat.beq t 69 with | true => some ty69 | false => none)
        | false => (match Nat.beq t 70 with | true => some ty70 | false => none)))
      | false => (match Nat.blt t 72 with
       | true => (match Nat.beq t 71 with | true => some ty71 | false => none)
       | false => (match Nat.blt t 73 with
        | true => (match Nat.beq t 72 with | true => some ty72 | false => none)
        | false => (match Nat.beq t 73 with | true => some ty73 | false => none))))
     | false => (match Nat.blt t 78 with
      | true => (match Nat.blt t 75 with
       | true => (match Nat.beq t 74 with | true => some ty74 | false => none)
       | false => (match Nat.blt t 77 with
        | true => (match Nat.beq t 75 with | true => some ty75 | false => none)
        | false => (match Nat.beq t 77 with | true => some ty77 | false => none)))
      | false => (match Nat.blt t 80 with
       | true => (match Nat.blt t 79 with
        | true => (match Nat.beq t 78 with | true => some ty78 | false => none)
        | false => (match Nat.beq t 79 with | true => some ty79 | false => none))
       | false => (match Nat.blt t 81 with
        | true => (match Nat.beq t 80 with | true => some ty80 | false => none)
        | false => (match Nat.beq t 81 with | true => some ty81 | false => none))))))
   | false => (match Nat.blt t 97 with
    | true => (match Nat.blt t 90 with
     | true => (match Nat.blt t 86 with
      | true => (match Nat.blt t 83 with
       | true => (match Nat.beq t 82 with | true => some ty82 | false => none)
       | false => (match Nat.blt t 84 with
        | true => (match Nat.beq t 83 with | true => some ty83 | false => none)
        | false => (match Nat.beq t 84 with | true => some ty84 | false => none)))
      | false => (match Nat.blt t 87 with
       | true => (match Nat.beq t 86 with | true => some ty86 | false => none)
       | false => (match Nat.blt t 88 with
        | true => (match Nat.beq t 87 with | true => some ty87 | false => none)
        | false => (match Nat.beq t 88 with | true => some ty88 | false => none))))
     | false => (match Nat.blt t 93 with
      | true => (match Nat.blt t 91 with
       | true => (match Nat.beq t 90 with | true => some ty90 | false => none)
       | false => (match Nat.blt t 92 with
        | true => (match Nat.beq t 91 with | true => some ty91 | false => none)
        | false => (match Nat.beq t 92 with | true => some ty92 | false => none)))
      | false => (match Nat.blt t 94 with
       | true => (match Nat.beq t 93 with | true => some ty93 | false => none)
       | false => (match Nat.blt t 96 with
        | true => (match Nat.beq t 94 with | true => some ty94 | false => none)
        | false => (match Nat.beq t 96 with | true => some ty96 | false => none)))))
    | false => (match Nat.blt t 104 with
     | true => (match Nat.blt t 100 with
      | true => (match Nat.blt t 98 with
       | true => (match Nat.beq t 97 with | true => some ty97 | false => none)
       | false => (match Nat.blt t 99 with
        | true => (match Nat.beq t 98 with | true => some ty98 | false => none)
        | false => (match Nat.beq t 99 with | true => some ty99 | false => none)))
      | false => (match Nat.blt t 101 with
       | true => (match Nat.beq t 100 with | true => some ty100 | false => none)
       | false => (match Nat.blt t 103 with
        | true => (match Nat.beq t 101 with | true => some ty101 | false => none)
        | false => (match Nat.beq t 103 with | true => some ty103 | false => none))))
     | false => (match Nat.blt t 109 with
      | true => (match Nat.blt t 106 with
       | true => (match Nat.beq t 104 with | true => some ty104 | false => none)
       | false => (match Nat.blt t 108 with
        | true => (match Nat.beq t 106 with | true => some ty106 | false => none)
        | false => (match Nat.beq t 108 with | true => some ty108 | false => none)))
      | false => (match Nat.blt t 111 with
       | true => (match Nat.blt t 110 with
        | true => (match Nat.beq t 109 with | true => some ty109 | false => none)
        | false => (match Nat.beq t 110 with | true => some ty110 | false => none))
       | false => (match Nat.blt t 112 with
        | true => (match Nat.beq t 111 with | true => some ty111 | false => none)
        | false => (match Nat.beq t 112 with | true => some ty112 | false => none))))))))
 | false => (match Nat.blt t 165 with
  | true => (match Nat.blt t 139 with
   | true => (match Nat.blt t 125 with
    | true => (match Nat.blt t 119 with
     | true => (match Nat.blt t 116 with
      | true => (match Nat.blt t 114 with
       | true => (match Nat.beq t 113 with | true => some ty113 | false => none)
       | false => (match Nat.blt t 115 with
        | true => (match Nat.beq t 114 with | true => some ty114 | false => none)
        | false => (match Nat.beq t 115 with | true => some ty115 | false => none)))
      | false => (match Nat.blt t 117 with
       | true => (match Nat.beq t 116 with | true => some ty116 | false => none)
       | false => (match Nat.blt t 118 with
        | true => (match Nat.beq t 117 with | true => some ty117 | false => none)
        | false => (match Nat.beq t 118 with | true => some ty118 | false => none))))
     | false => (match Nat.blt t 122 with
      | true => (match Nat.blt t 120 with
       | true => (match Nat.beq t 119 with | true => some ty119 | false => none)
       | false => (match Nat.blt t 121 with
        | true => (match Nat.beq t 120 with | true => some ty120 | false => none)
        | false => (match Nat.beq t 121 with | true => some ty121 | false => none)))
      | false => (match Nat.blt t 123 with
       | true => (match Nat.beq t 122 with | true => some ty122 | false => none)
       | false => (match Nat.blt t 124 with
        | true => (match Nat.beq t 123 with | true => some ty123 | false => none)
        | false => (match Nat.beq t 124 with | true => some ty124 | false => none)))))
    | false => (match Nat.blt t 131 with
     | true => (match Nat.blt t 128 with
      | true => (match Nat.blt t 126 with
       | true => (match Nat.beq t 125 with | true => some ty125 | false => none)
       | false => (match Nat.blt t 127 with
        | true => (match Nat.beq t 126 with | true => some ty126 | false => none)
        | false => (match Nat.beq t 127 with | true => some ty127 | false => none)))
      | false => (match Nat.blt t 129 with
       | true => (match Nat.beq t 128 with | true => some ty128 | false => none)
       | false => (match Nat.blt t 130 with
        | true => (match Nat.beq t 129 with | true => some ty129 | false => none)
        | false => (match Nat.beq t 130 with | true => some ty130 | false => none))))
     | false => (match Nat.blt t 135 with
      | true => (match Nat.blt t 133 with
       | true => (match Nat.beq t 131 with | true => some ty131 | false => none)
       | false => (match Nat.blt t 134 with
        | true => (match Nat.beq t 133 with | true => some ty133 | false => none)
        | false => (match Nat.beq t 134 with | true => some ty134 | false => none)))
      | false => (match Nat.blt t 137 with
       | true => (match Nat.blt t 136 with
        | true => (match Nat.beq t 135 with | true => some ty135 | false => none)
        | false => (match Nat.beq t 136 with | true => some ty136 | false => none))
       | false => (match Nat.blt t 138 with
        | true => (match Nat.beq t 137 with | true => some ty137 | false => none)
        | false => (match Nat.beq t 138 with | true => some ty138 | false => none))))))
   | false => (match Nat.blt t 151 with
    | true => (match Nat.blt t 145 with
     | true => (match Nat.blt t 142 with
      | true => (match Nat.blt t 140 with
       | true => (match Nat.beq t 139 with | true => some ty139 | false => none)
       | false => (match Nat.blt t 141 with
        | true => (match Nat.beq t 140 with | true => some ty140 | false => none)
        | false => (match Nat.beq t 141 with | true => some ty141 | false => none)))
      | false => (match Nat.blt t 143 with
       | true => (match Nat.beq t 142 with | true => some ty142 | false => none)
       | false => (match Nat.blt t 144 with
        | true => (match Nat.beq t 143 with | true => some ty143 | false => none)
        | false => (match Nat.beq t 144 with | true => some ty144 | false => none))))
     | false => (match Nat.blt t 148 with
      | true => (match Nat.blt t 146 with
       | true => (match Nat.beq t 145 with | true => some ty145 | false => none)
       | false => (match Nat.blt t 147 with
        | true => (match Nat.beq t 146 with | true => some ty146 | false => none)
        | false => (match Nat.beq t 147 with | true => some ty147 | false => none)))
      | false => (match Nat.blt t 149 with
       | true => (match Nat.beq t 148 with | true => some ty148 | false => none)
       | false => (match Nat.blt t 150 with
        | true => (match Nat.beq t 149 with | true => some ty149 | false => none)
        | false => (match Nat.beq t 150 with | true => some ty150 | false => none)))))
    | false => (match Nat.blt t 157 with
     | true => (match Nat.blt t 154 with
      | true => (match Nat.blt t 152 with
       | true => (match Nat.beq t 151 with | true => some ty151 | false => none)
       | false => (match Nat.blt t 153 with
        | true => (match Nat.beq t 152 with | true => some ty152 | false => none)
        | false => (match Nat.beq t 153 with | true => some ty153 | false => none)))
      | false => (match Nat.blt t 155 with
       | true => (match Nat.beq t 154 with | true => some ty154 | false => none)
       | false => (match Nat.blt t 156 with
        | true => (match Nat.beq t 155 with | true => some ty155 | false => none)
        | false => (match Nat.beq t 156 with | true => some ty156 | false => none))))
     | false => (match Nat.blt t 160 with
      | true => (match Nat.blt t 158 with
       | true => (match Nat.beq t 157 with | true => some ty157 | false => none)
       | false => (match Nat.blt t 159 with
        | true => (match Nat.beq t 158 with | true => some ty158 | false => none)
        | false => (match Nat.beq t 159 with | true => some ty159 | false => none)))
      | false => (match Nat.blt t 162 with
       | true => (match Nat.blt t 161 with
        | true => (match Nat.beq t 160 with | true => some ty160 | false => none)
        | false => (match Nat.beq t 161 with | true => some ty161 | false => none))
       | false => (match Nat.blt t 163 with
        | true => (match Nat.beq t 162 with | true => some ty162 | false => none)
        | false => (match Nat.beq t 163 with | true => some ty163 | false => none)))))))
  | false => (match Nat.blt t 194 with
   | true => (match Nat.blt t 179 with
    | true => (match Nat.blt t 171 with
     | true => (match Nat.blt t 168 with
      | true => (match Nat.blt t 166 with
       | true => (match Nat.beq t 165 with | true => some ty165 | false => none)
       | false => (match Nat.blt t 167 with
        | true => (match Nat.beq t 166 with | true => some ty166 | false => none)
        | false => (match Nat.beq t 167 with | true => some ty167 | false => none)))
      | false => (match Nat.blt t 169 with
       | true => (match Nat.beq t 168 with | true => some ty168 | false => none)
       | false => (match Nat.blt t 170 with
        | true => (match Nat.beq t 169 with | true => some ty169 | false => none)
        | false => (match Nat.beq t 170 with | true => some ty170 | false => none))))
     | false => (match Nat.blt t 175 with
      | true => (match Nat.blt t 173 with
       | true => (match Nat.beq t 171 with | true => some ty171 | false => none)
       | false => (match Nat.blt t 174 with
        | true => (match Nat.beq t 173 with | true => some ty173 | false => none)
        | false => (match Nat.beq t 174 with | true => some ty174 | false => none)))
      | false => (match Nat.blt t 177 with
       | true => (match Nat.beq t 175 with | true => some ty175 | false => none)
       | false => (match Nat.blt t 178 with
        | true => (match Nat.beq t 177 with | true => some ty177 | false => none)
        | false => (match Nat.beq t 178 with | true => some ty178 | false => none)))))
    | false => (match Nat.blt t 186 with
     | true => (match Nat.blt t 183 with
      | true => (match Nat.blt t 180 with
       | true => (match Nat.beq t 179 with | true => some ty179 | false => none)
       | false => (match Nat.blt t 181 with
        | true => (match Nat.beq t 180 with | true => some ty180 | false => none)
        | false => (match Nat.beq t 181 with | true => some ty181 | false => none)))
      | false => (match Nat.blt t 184 with
       | true => (match Nat.beq t 183 with | true => some ty183 | false => none)
       | false => (match Nat.blt t 185 with
        | true => (match Nat.beq t 184 with | true => some ty184 | false => none)
        | false => (match Nat.beq t 185 with | true => some ty185 | false => none))))
     | false => (match Nat.blt t 190 with
      | true => (match Nat.blt t 187 with
       | true => (match Nat.beq t 186 with | true => some ty186 | false => none)
       | false => (match Nat.blt t 188 with
        | true => (match Nat.beq t 187 with | true => some ty187 | false => none)
        | false => (match Nat.beq t 188 with | true => some ty188 | false => none)))
      | false => (match Nat.blt t 192 with
       | true => (match Nat.blt t 191 with
        | true => (match Nat.beq t 190 with | true => some ty190 | false => none)
        | false => (match Nat.beq t 191 with | true => some ty191 | false => none))
       | false => (match Nat.blt t 193 with
        | true => (match Nat.beq t 192 with | true => some ty192 | false => none)
        | false => (match Nat.beq t 193 with | true => some ty193 | false => none))))))
   | false => (match Nat.blt t 206 with
    | true => (match Nat.blt t 200 with
     | true => (match Nat.blt t 197 with
      | true => (match Nat.blt t 195 with
       | true => (match Nat.beq t 194 with | true => some ty194 | false => none)
       | false => (match Nat.blt t 196 with
        | true => (match Nat.beq t 195 with | true => some ty195 | false => none)
        | false => (match Nat.beq t 196 with | true => some ty196 | false => none)))
      | false => (match Nat.blt t 198 with
       | true => (match Nat.beq t 197 with | true => some ty197 | false => none)
       | false => (match Nat.blt t 199 with
        | true => (match Nat.beq t 198 with | true => some ty198 | false => none)
        | false => (match Nat.beq t 199 with | true => some ty199 | false => none))))
     | false => (match Nat.blt t 203 with
      | true => (match Nat.blt t 201 with
       | true => (match Nat.beq t 200 with | true => some ty200 | false => none)
       | false => (match Nat.blt t 202 with
        | true => (match Nat.beq t 201 with | true => some ty201 | false => none)
        | false => (match Nat.beq t 202 with | true => some ty202 | false => none)))
      | false => (match Nat.blt t 204 with
       | true => (match Nat.beq t 203 with | true => some ty203 | false => none)
       | false => (match Nat.blt t 205 with
        | true => (match Nat.beq t 204 with | true => some ty204 | false => none)
        | false => (match Nat.beq t 205 with | true => some ty205 | false => none)))))
    | false => (match Nat.blt t 215 with
     | true => (match Nat.blt t 212 with
      | true => (match Nat.blt t 207 with
       | true => (match Nat.beq t 206 with | true => some ty206 | false => none)
       | false => (match Nat.blt t 208 with
        | true => (match Nat.beq t 207 with | true => some ty207 | false => none)
        | false => (match Nat.beq t 208 with | true => some ty208 | false => none)))
      | false => (match Nat.blt t 213 with
       | true => (match Nat.beq t 212 with | true => some ty212 | false => none)
       | false => (match Nat.blt t 214 with
        | true => (match Nat.beq t 213 with | true => some ty213 | false => none)
        | false => (match Nat.beq t 214 with | true => some ty214 | false => none))))
     | false => (match Nat.blt t 218 with
      | true => (match Nat.blt t 216 with
       | true => (match Nat.beq t 215 with | true => some ty215 | false => none)
       | false => (match Nat.blt t 217 with
        | true => (match Nat.beq t 216 with | true => some ty216 | false => none)
        | false => (match Nat.beq t 217 with | true => some ty217 | false => none)))
      | false => (match Nat.blt t 220 with
       | true => (match Nat.blt t 219 with
        | true => (match Nat.beq t 218 with | true => some ty218 | false => none)
        | false => (match Nat.beq t 219 with | true => some ty219 | false => none))
       | false => (match Nat.blt t 221 with
        | true => (match Nat.beq t 220 with | true => some ty220 | false => none)
        | false => (match Nat.beq t 221 with | true => some ty221 | false => none))))))))
theorem tyOk1 : TyOk Go.Proofs.Tryz.prog 1 ty1 := tyOk_of Tryz.type1 Tryz.underlying1 (by rfl) (by rfl) (by rfl) (by rfl) (by rfl) (by rfl) (by rfl) (by rfl)
theorem tyOk2 : TyOk Go.Proofs.Tryz.prog 2 ty2 := tyOk_of Tryz.type2 Tryz.underlying2 (by rfl) (by rfl) (by rfl) (by rfl) (by rfl) (by rfl) (by rfl) (by rfl)
theorem tyOk3 : TyOk Go.Proofs.Tryz.prog 3 ty3 := tyOk_of Tryz.type3 Tryz.underlying3 (by rfl) (by rfl) (by rfl) (by rfl) (by rfl) (by rfl) (by rfl) (by rfl)
theorem tyOk4 : TyOk Go.Proofs.Tryz.prog 4 ty4 := tyOk_of Tryz.type4 Tryz.underlying4 (by rfl) (by rfl) (by rfl) (by rfl) (by rfl) (by rfl) (by rfl) (by rfl)
theorem tyOk5 : TyOk Go.Proofs.Tryz.prog 5 ty5 := tyOk_of Tryz.type5 Tryz.underlying5 (by rfl) (by rfl) (by rfl) (by rfl) (by rfl) (by rfl) (by rfl) (by rfl)
theorem tyOk6 : TyOk Go.Proofs.Tryz.prog 6 ty6 := tyOk_of Tryz.type6 Tryz.underlying6 (by rfl) (by rfl) (by rfl) (by rfl) (by rfl) (by rfl) (by rfl) (by rfl)
theorem tyOk7 : TyOk Go.Proofs.Tryz.prog 7 ty7 := tyOk_of Tryz.type7 Tryz.underlying7 (by rfl) (by rfl) (by rfl) (by rfl) (by rfl) (by rfl) (by rfl) (by rfl)
theorem tyOk8 : TyOk Go.Proofs.Tryz.prog 8 ty8 := tyOk_of Tryz.type8 Tryz.underlying8 (by rfl) (by rfl) (by rfl) (by rfl) (by rfl) (by rfl) (by rfl) (by rfl)
theorem tyOk9 : TyOk Go.Proofs.Tryz.prog 9 ty9 := tyOk_of Tryz.type9 Tryz.underlying9 (by rfl) (by rfl) (by rfl) (by rfl) (by rfl) (by rfl) (by rfl) (by rfl)
theorem tyOk10 : TyOk Go.Proofs.Tryz.prog 10 ty10 := tyOk_of Tryz.type10 Tryz.underlying10 (by rfl) (by rfl) (by rfl) (by rfl) (by rfl) (by rfl) (by rfl) (by rfl)
theorem tyOk11 : TyOk Go.Proofs.Tryz.prog 11 ty11 := tyOk_of Tryz.type11 Tryz.underlying11 (by rfl) (by rfl) (by rfl) (by rfl) (by rfl) (by rfl) (by rfl) (by rfl)
theorem tyOk12 : TyOk Go.Proofs.Tryz.prog 12 ty12 := tyOk_of Tryz.type12 Tryz.underlying12 (by rfl) (by rfl) (by rfl) (by rfl) (by rfl) (by rfl) (by rfl) (by rfl)
theorem tyOk13 : TyOk Go.Proofs.Tryz.prog 13 ty13 := tyOk_of Tryz.type13 Tryz.underlying13 (by rfl) (by rfl) (by rfl) (by rfl) (by rfl) (by rfl) (by rfl) (by rfl)
theorem tyOk14 : TyOk Go.Proofs.Tryz.prog 14 ty14 := tyOk_of Tryz.type14 Tryz.underlying14 (by rfl) (by rfl) (by rfl) (by rfl) (by rfl) (by rfl) (by rfl) (by rfl)
theorem tyOk15 : TyOk Go.Proofs.Tryz.prog 15 ty15 := tyOk_of Tryz.type15 Tryz.underlying15 (by rfl) (by rfl) (by rfl) (by rfl) (by rfl) (by rfl) (by rfl) (by rfl)
theorem tyOk16 : TyOk Go.Proofs.Tryz.prog 16 ty16 := tyOk_of Tryz.type16 Tryz.underlying16 (by rfl) (by rfl) (by rfl) (by rfl) (by rfl) (by rfl) (by rfl) (by rfl)
theorem tyOk17 : TyOk Go.Proofs.Tryz.prog 17 ty17 := tyOk_of Tryz.type17 Tryz.underlying17 (by rfl) (by rfl) (by rfl) (by rfl) (by rfl) (by rfl) (by rfl) (by rfl)
theorem tyOk18 : TyOk Go.Proofs.Tryz.prog 18 ty18 := tyOk_of Tryz.type18 Tryz.underlying18 (by rfl) (by rfl) (by rfl) (by rfl) (by rfl) (by rfl) (by rfl) (by rfl)
theorem tyOk19 : TyOk Go.Proofs.Tryz.prog 19 ty19 := tyOk_of Tryz.type19 Tryz.underlying19 (by rfl) (by rfl) (by rfl) (by rfl) (by rfl) (by rfl) (by rfl) (by rfl)
theorem tyOk20 : TyOk Go.Proofs.Tryz.prog 20 ty20 := tyOk_of Tryz.type20 Tryz.underlying20 (by rfl) (by rfl) (by rfl) (by rfl) (by rfl) (by rfl) (by rfl) (by rfl)
theorem tyOk21 : TyOk Go.Proofs.Tryz.prog 21 ty21 := tyOk_of Tryz.type21 Tryz.underlying21 (by rfl) (by rfl) (by rfl) (by rfl) (by rfl) (by rfl) (by rfl) (by rfl)
theorem tyOk22 : TyOk Go.Proofs.Tryz.prog 22 ty22 := tyOk_of Tryz.type22 Tryz.underlying22 (by rfl) (by rfl) (by rfl) (by rfl) (by rfl) (by rfl) (by rfl) (by rfl)
theorem tyOk23 : TyOk Go.Proofs.Tryz.prog 23 ty23 := tyOk_of Tryz.type23 Tryz.underlying23 (by rfl) (by rfl) (by rfl) (by rfl) (by rfl) (by rfl) (by rfl) (by rfl)
theorem tyOk24 : TyOk Go.Proofs.Tryz.prog 24 ty24 := tyOk_of Tryz.type24 Tryz.underlying24 (by rfl) (by rfl) (by rfl) (by rfl) (by rfl) (by rfl) (by rfl) (by rfl)
theorem tyOk25 : TyOk Go.Proofs.Tryz.prog 25 ty25 := tyOk_of Tryz.type25 Tryz.underlying25 (by rfl) (by rfl) (by rfl) (by rfl) (by rfl) (by rfl) (by rfl) (by rfl)
theorem tyOk26 : TyOk Go.Proofs.Tryz.prog 26 ty26 := tyOk_of Tryz.type26 Tryz.underlying26 (by rfl) (by rfl) (by rfl) (by rfl) (by rfl) (by rfl) (by rfl) (by rfl)
theorem tyOk27 : TyOk Go.Proofs.Tryz.prog 27 ty27 := tyOk_of Tryz.type27 Tryz.underlying27 (by rfl) (by rfl) (by rfl) (by rfl) (by rfl) (by rfl) (by rfl) (by rfl)
theorem tyOk28 : TyOk Go.Proofs.Tryz.prog 28 ty28 := tyOk_of Tryz.type28 Tryz.underlying28 (by rfl) (by rfl) (by rfl) (by rfl) (by rfl) (by rfl) (by rfl) (by rfl)
theorem tyOk29 : TyOk Go.Proofs.Tryz.prog 29 ty29 := tyOk_of Tryz.type29 Tryz.underlying29 (by rfl) (by rfl) (by rfl) (by rfl) (by rfl) (by rfl) (by rfl) (by rfl)
theorem tyOk30 : TyOk Go.Proofs.Tryz.prog 30 ty30 := tyOk_of Tryz.type30 Tryz.underlying30 (by rfl) (by rfl) (by rfl) (by rfl) (by rfl) (by rfl) (by rfl) (by rfl)
theorem tyOk31 : TyOk Go.Proofs.Tryz.prog 31 ty31 := tyOk_of Tryz.type31 Tryz.underlying31 (by rfl) (by rfl) (by rfl) (by rfl) (by rfl) (by rfl) (by rfl) (by rfl)
theorem tyOk32 : TyOk Go.Proofs.Tryz.prog 32 ty32 := tyOk_of Tryz.type32 Tryz.underlying32 (by rfl) (by rfl) (by rfl) (by rfl) (by rfl) (by rfl) (by rfl) (by rfl)
theorem tyOk33 : TyOk Go.Proofs.Tryz.prog 33 ty33 := tyOk_of Tryz.type33 Tryz.underlying33 (by rfl) (by rfl) (by rfl) (by rfl) (by rfl) (by rfl) (by rfl) (by rfl)
theorem tyOk34 : TyOk Go.Proofs.Tryz.prog 34 ty34 := tyOk_of Tryz.type34 Tryz.underlying34 (by rfl) (by rfl) (by rfl) (by rfl) (by rfl) (by rfl) (by rfl) (by rfl)
theorem tyOk35 : TyOk Go.Proofs.Tryz.prog 35 ty35 := tyOk_of Tryz.type35 Tryz.underlying35 (by rfl) (by rfl) (by rfl) (by rfl) (by rfl) (by rfl) (by rfl) (by rfl)
theorem tyOk36 : TyOk Go.Proofs.Tryz.prog 36 ty36 := tyOk_of Tryz.type36 Tryz.underlying36 (by rfl) (by rfl) (by rfl) (by rfl) (by rfl) (by rfl) (by rfl) (by rfl)
theorem tyOk37 : TyOk Go.Proofs.Tryz.prog 37 ty37 := tyOk_of Tryz.type37 Tryz.underlying37 (by rfl) (by rfl) (by rfl) (by rfl) (by rfl) (by rfl) (by rfl) (by rfl)
theorem tyOk38 : TyOk Go.Proofs.Tryz.prog 38 ty38 := tyOk_of Tryz.type38 Tryz.underlying38 (by rfl) (by rfl) (by rfl) (by rfl) (by rfl) (by rfl) (by rfl) (by rfl)
theorem tyOk40 : TyOk Go.Proofs.Tryz.prog 40 ty40 := tyOk_of Tryz.type40 Tryz.underlying40 (by rfl) (by rfl) (by rfl) (by rfl) (by rfl) (by rfl) (by rfl) (by rfl)
theorem tyOk41 : TyOk Go.Proofs.Tryz.prog 41 ty41 := tyOk_of Tryz.type41 Tryz.underlying41 (by rfl) (by rfl) (by rfl) (by rfl) (by rfl) (by rfl) (by rfl) (by rfl)
theorem tyOk42 : TyOk Go.Proofs.Tryz.prog 42 ty42 := tyOk_of Tryz.type42 Tryz.underlying42 (by rfl) (by rfl) (by rfl) (by rfl) (by rfl) (by rfl) (by rfl) (by rfl)
theorem tyOk44 : TyOk Go.Proofs.Tryz.prog 44 ty44 := tyOk_of Tryz.type44 Tryz.underlying44 (by rfl) (by rfl) (by rfl) (by rfl) (by rfl) (by rfl) (by rfl) (by rfl)
theorem tyOk46 : TyOk Go.Proofs.Tryz.prog 46 ty46 := tyOk_of Tryz.type46 Tryz.underlying46 (by rfl) (by rfl) (by rfl) (by rfl) (by rfl) (by rfl) (by rfl) (by rfl)
theorem tyOk47 : TyOk Go.Proofs.Tryz.prog 47 ty47 := tyOk_of Tryz.type47 Tryz.underlying47 (by rfl) (by rfl) (by rfl) (by rfl) (by rfl) (by rfl) (by rfl) (by rfl)
theorem tyOk48 : TyOk Go.Proofs.Tryz.prog 48 ty48 := tyOk_of Tryz.type48 Tryz.underlying48 (by rfl) (by rfl) (by rfl) (by rfl) (by rfl) (by rfl) (by rfl) (by rfl)
theorem tyOk49 : TyOk Go.Proofs.Tryz.prog 49 ty49 := tyOk_of Tryz.type49 Tryz.underlying49 (by rfl) (by rfl) (by rfl) (by rfl) (by rfl) (by rfl) (by rfl) (by rfl)
theorem tyOk50 : TyOk Go.Proofs.Tryz.prog 50 ty50 := tyOk_of Tryz.type50 Tryz.underlying50 (by rfl) (by rfl) (by rfl) (by rfl) (by rfl) (by rfl) (by rfl) (by rfl)
theorem tyOk51 : TyOk Go.Proofs.Tryz.prog 51 ty51 := tyOk_of Tryz.type51 Tryz.underlying51 (by rfl) (by rfl) (by rfl) (by rfl) (by rfl) (by rfl) (by rfl) (by rfl)
theorem tyOk53 : TyOk Go.Proofs.Tryz.prog 53 ty53 := tyOk_of Tryz.type53 Tryz.underlying53 (by rfl) (by rfl) (by rfl) (by rfl) (by rfl) (by rfl) (by rfl) (by rfl)
theorem tyOk54 : TyOk Go.Proofs.Tryz.prog 54 ty54 := tyOk_of Tryz.type54 Tryz.underlying54 (by rfl) (by rfl) (by rfl) (by rfl) (by rfl) (by rfl) (by rfl) (by rfl)
theorem tyOk55 : TyOk Go.Proofs.Tryz.prog 55 ty55 := tyOk_of Tryz.type55 Tryz.underlying55 (by rfl) (by rfl) (by rfl) (by rfl) (by rfl) (by rfl) (by rfl) (by rfl)
theorem tyOk56 : TyOk Go.Proofs.Tryz.prog 56 ty56 := tyOk_of Tryz.type56 Tryz.underlying56 (by rfl) (by rfl) (by rfl) (by rfl) (by rfl) (by rfl) (by rfl) (by rfl)
theorem tyOk57 : TyOk Go.Proofs.Tryz.prog 57 ty57 := tyOk_of Tryz.type57 Tryz.underlying57 (by rfl) (by rfl) (by rfl) (by rfl) (by rfl) (by rfl) (by rfl) (by rfl)
theorem tyOk58 : TyOk Go.Proofs.Tryz.prog 58 ty58 := tyOk_of Tryz.type58 Tryz.underlying58 (by rfl) (by rfl) (by rfl) (by rfl) (by rfl) (by rfl) (by rfl) (by rfl)
theorem tyOk59 : TyOk Go.Proofs.Tryz.prog 59 ty59 := tyOk_of Tryz.type59 Tryz.underlying59 (by rfl) (by rfl) (by rfl) (by rfl) (by rfl) (by rfl) (by rfl) (by rfl)
theorem tyOk60 : TyOk Go.Proofs.Tryz.prog 60 ty60 := tyOk_of Tryz.type60 Tryz.underlying60 (by rfl) (by rfl) (by rfl) (by rfl) (by rfl) (by rfl) (by rfl) (by rfl)
theorem tyOk61 : TyOk Go.Proofs.Tryz.prog 61 ty61 := tyOk_of Tryz.type61 Tryz.underlying61 (by rfl) (by rfl) (by rfl) (by rfl) (by rfl) (by rfl) (by rfl) (by rfl)
theorem tyOk63 : TyOk Go.Proofs.Tryz.prog 63 ty63 := tyOk_of Tryz.type63 Tryz.underlying63 (by rfl) (by rfl) (by rfl) (by rfl) (by rfl) (by rfl) (by rfl) (by rfl)
theorem tyOk64 : TyOk Go.Proofs.Tryz.prog 64 ty64 := tyOk_of Tryz.type64 Tryz.underlying64 (by rfl) (by rfl) (by rfl) (by rfl) (by rfl) (by rfl) (by rfl) (by rfl)
theorem tyOk65 : TyOk Go.Proofs.Tryz.prog 65 ty65 := tyOk_of Tryz.type65 Tryz.underlying65 (by rfl) (by rfl) (by rfl) (by rfl) (by rfl) (by rfl) (by rfl) (by rfl)
theorem tyOk66 : TyOk Go.Proofs.Tryz.prog 66 ty66 := tyOk_of Tryz.type66 Tryz.underlying66 (by rfl) (by rfl) (by rfl) (by rfl) (by rfl) (by rfl) (by rfl) (by rfl)
theorem tyOk67 : TyOk Go.Proofs.Tryz.prog 67 ty67 := tyOk_of Tryz.type67 Tryz.underlying67 (by rfl) (by rfl) (by rfl) (by rfl) (by rfl) (by rfl) (by rfl) (by rfl)
theorem tyOk68 : TyOk Go.Proofs.Tryz.prog 68 ty68 := tyOk_of Tryz.type68 Tryz.underlying68 (by rfl) (by rfl) (by rfl) (by rfl) (by rfl) (by rfl) (by rfl) (by rfl)
theorem tyOk69 : TyOk Go.Proofs.Tryz.prog 69 ty69 := tyOk_of Tryz.type69 Tryz.underlying69 (by rfl) (by rfl) (by rfl) (by rfl) (by rfl) (by rfl) (by rfl) (by rfl)
theorem tyOk70 : TyOk Go.Proofs.Tryz.prog 70 ty70 := tyOk_of Tryz.type70 Tryz.underlying70 (by rfl) (by rfl) (by rfl) (by rfl) (by rfl) (by rfl) (by rfl) (by rfl)
theorem tyOk71 : TyOk Go.Proofs.Tryz.prog 71 ty71 := tyOk_of Tryz.type71 Tryz.underlying71 (by rfl) (by rfl) (by rfl) (by rfl) (by rfl) (by rfl) (by rfl) (by rfl)
theorem tyOk72 : TyOk Go.Proofs.Tryz.prog 72 ty72 := tyOk_of Tryz.type72 Tryz.underlying72 (by rfl) (by rfl) (by rfl) (by rfl) (by rfl) (by rfl) (by rfl) (by rfl)
theorem tyOk73 : TyOk Go.Proofs.Tryz.prog 73 ty73 := tyOk_of Tryz.type73 Tryz.underlying73 (by rfl) (by rfl) (by rfl) (by rfl) (by rfl) (by rfl) (by rfl) (by rfl)
theorem tyOk74 : TyOk Go.Proofs.Tryz.prog 74 ty74 := tyOk_of Tryz.type74 Tryz.underlying74 (by rfl) (by rfl) (by rfl) (by rfl) (by rfl) (by rfl) (by rfl) (by rfl)
theorem tyOk75 : TyOk Go.Proofs.Tryz.prog 75 ty75 := tyOk_of Tryz.type75 Tryz.underlying75 (by rfl) (by rfl) (by rfl) (by rfl) (by rfl) (by rfl) (by rfl) (by rfl)
theorem tyOk77 : TyOk Go.Proofs.Tryz.prog 77 ty77 := tyOk_of Tryz.type77 Tryz.underlying77 (by rfl) (by rfl) (by rfl) (by rfl) (by rfl) (by rfl) (by rfl) (by rfl)
theorem tyOk78 : TyOk Go.Proofs.Tryz.prog 78 ty78 := tyOk_of Tryz.type78 Tryz.underlying78 (by rfl) (by rfl) (by rfl) (by rfl) (by rfl) (by rfl) (by rfl) (by rfl)
theorem tyOk79 : TyOk Go.Proofs.Tryz.prog 79 ty79 := tyOk_of Tryz.type79 Tryz.underlying79 (by rfl) (by rfl) (by rfl) (by rfl) (by rfl) (by rfl) (by rfl) (by rfl)
theorem tyOk80 : TyOk Go.Proofs.Tryz.prog 80 ty80 := tyOk_of Tryz.type80 Tryz.underlying80 (by rfl) (by rfl) (by rfl) (by rfl) (by rfl) (by rfl) (by rfl) (by rfl)
theorem tyOk81 : TyOk Go.Proofs.Tryz.prog 81 ty81 := tyOk_of Tryz.type81 Tryz.underlying81 (by rfl) (by rfl) (by rfl) (by rfl) (by rfl) (by rfl) (by rfl) (by rfl)
theorem tyOk82 : TyOk Go.Proofs.Tryz.prog 82 ty82 := tyOk_of Tryz.type82 Tryz.underlying82 (by rfl) (by rfl) (by rfl) (by rfl) (by rfl) (by rfl) (by rfl) (by rfl)
theorem tyOk83 : TyOk Go.Proofs.Tryz.prog 83 ty83 := tyOk_of Tryz.type83 Tryz.underlying83 (by rfl) (by rfl) (by rfl) (by rfl) (by rfl) (by rfl) (by rfl) (by rfl)
theorem tyOk84 : TyOk Go.Proofs.Tryz.prog 84 ty84 := tyOk_of Tryz.type84 Tryz.underlying84 (by rfl) (by rfl) (by rfl) (by rfl) (by rfl) (by rfl) (by rfl) (by rfl)
theorem tyOk86 : TyOk Go.Proofs.Tryz.prog 86 ty86 := tyOk_of Tryz.type86 Tryz.underlying86 (by rfl) (by rfl) (by rfl) (by rfl) (by rfl) (by rfl) (by rfl) (by rfl)
theorem tyOk87 : TyOk Go.Proofs.Tryz.prog 87 ty87 := tyOk_of Tryz.type87 Tryz.underlying87 (by rfl) (by rfl) (by rfl) (by rfl) (by rfl) (by rfl) (by rfl) (by rfl)
theorem tyOk88 : TyOk Go.Proofs.Tryz.prog 88 ty88 := tyOk_of Tryz.type88 Tryz.underlying88 (by rfl) (by rfl) (by rfl) (by rfl) (by rfl) (by rfl) (by rfl) (by rfl)
theorem tyOk90 : TyOk Go.Proofs.Tryz.prog 90 ty90 := tyOk_of Tryz.type90 Tryz.underlying90 (by rfl) (by rfl) (by rfl) (by rfl) (by rfl) (by rfl) (by rfl) (by rfl)
theorem tyOk91 : TyOk Go.Proofs.Tryz.prog 91 ty91 := tyOk_of Tryz.type91 Tryz.underlying91 (by rfl) (by rfl) (by rfl) (by rfl) (by rfl) (by rfl) (by rfl) (by rfl)
theorem tyOk92 : TyOk Go.Proofs.Tryz.prog 92 ty92 := tyOk_of Tryz.type92 Tryz.underlying92 (by rfl) (by rfl) (by rfl) (by rfl) (by rfl) (by rfl) (by rfl) (by rfl)
theorem tyOk93 : TyOk Go.Proofs.Tryz.prog 93 ty93 := tyOk_of Tryz.type93 Tryz.underlying93 (by rfl) (by rfl) (by rfl) (by rfl) (by rfl) (by rfl) (by rfl) (by rfl)
theorem tyOk94 : TyOk Go.Proofs.Tryz.prog 94 ty94 := tyOk_of Tryz.type94 Tryz.underlying94 (by rfl) (by rfl) (by rfl) (by rfl) (by rfl) (by rfl) (by rfl) (by rfl)
theorem tyOk96 : TyOk Go.Proofs.Tryz.prog 96 ty96 := tyOk_of Tryz.type96 Tryz.underlying96 (by rfl) (by rfl) (by rfl) (by rfl) (by rfl) (by rfl) (by rfl) (by rfl)
theorem tyOk97 : TyOk Go.Proofs.Tryz.prog 97 ty97 := tyOk_of Tryz.type97 Tryz.underlying97 (by rfl) (by rfl) (by rfl) (by rfl) (by rfl) (by rfl) (by rfl) (by rfl)
theorem tyOk98 : TyOk Go.Proofs.Tryz.prog 98 ty98 := tyOk_of Tryz.type98 Tryz.underlying98 (by rfl) (by rfl) (by rfl) (by rfl) (by rfl) (by rfl) (by rfl) (by rfl)
theorem tyOk99 : TyOk Go.Proofs.Tryz.prog 99 ty99 := tyOk_of Tryz.type99 Tryz.underlying99 (by rfl) (by rfl) (by rfl) (by rfl) (by rfl) (by rfl) (by rfl) (by rfl)
theorem tyOk100 : TyOk Go.Proofs.Tryz.prog 100 ty100 := tyOk_of Tryz.type100 Tryz.underlying100 (by rfl) (by rfl) (by rfl) (by rfl) (by rfl) (by rfl) (by rfl) (by rfl)
theorem tyOk101 : TyOk Go.Proofs.Tryz.prog 101 ty101 := tyOk_of Tryz.type101 Tryz.underlying101 (by rfl) (by rfl) (by rfl) (by rfl) (by rfl) (by rfl) (by rfl) (by rfl)
theorem tyOk103 : TyOk Go.Proofs.Tryz.prog 103 ty103 := tyOk_of Tryz.type103 Tryz.underlying103 (by rfl) (by rfl) (by rfl) (by rfl) (by rfl) (by rfl) (by rfl) (by rfl)
theorem tyOk104 : TyOk Go.Proofs.Tryz.prog 104 ty104 := tyOk_of Tryz.type104 Tryz.underlying104 (by rfl) (by rfl) (by rfl) (by rfl) (by rfl) (by rfl) (by rfl) (by rfl)
theorem tyOk106 : TyOk Go.Proofs.Tryz.prog 106 ty106 := tyOk_of Tryz.type106 Tryz.underlying106 (by rfl) (by rfl) (by rfl) (by rfl) (by rfl) (by rfl) (by rfl) (by rfl)
theorem tyOk108 : TyOk Go.Proofs.Tryz.prog 108 ty108 := tyOk_of Tryz.type108 Tryz.underlying108 (by rfl) (by rfl) (by rfl) (by rfl) (by rfl) (by rfl) (by rfl) (by rfl)
theorem tyOk109 : TyOk Go.Proofs.Tryz.prog 109 ty109 := tyOk_of Tryz.type109 Tryz.underlying109 (by rfl) (by rfl) (by rfl) (by rfl) (by rfl) (by rfl) (by rfl) (by rfl)
theorem tyOk110 : TyOk Go.Proofs.Tryz.prog 110 ty110 := tyOk_of Tryz.type110 Tryz.underlying110 (by rfl) (by rfl) (by rfl) (by rfl) (by rfl) (by rfl) (by rfl) (by rfl)
theorem tyOk111 : TyOk Go.Proofs.Tryz.prog 111 ty111 := tyOk_of Tryz.type111 Tryz.underlying111 (by rfl) (by rfl) (by rfl) (by rfl) (by rfl) (by rfl) (by rfl) (by rfl)
theorem tyOk112 : TyOk Go.Proofs.Tryz.prog 112 ty112 := tyOk_of Tryz.type112 Tryz.underlying112 (by rfl) (by rfl) (by rfl) (by rfl) (by rfl) (by rfl) (by rfl) (by rfl)
theorem tyOk113 : TyOk Go.Proofs.Tryz.prog 113 ty113 := tyOk_of Tryz.type113 Tryz.underlying113 (by rfl) (by rfl) (by rfl) (by rfl) (by rfl) (by rfl) (by rfl) (by rfl)
theorem tyOk114 : TyOk Go.Proofs.Tryz.prog 114 ty114 := tyOk_of Tryz.type114 Tryz.underlying114 (by rfl) (by rfl) (by rfl) (by rfl) (by rfl) (by rfl) (by rfl) (by rfl)
theorem tyOk115 : TyOk Go.Proofs.Tryz.prog 115 ty115 := tyOk_of Tryz.type115 Tryz.underlying115 (by rfl) (by rfl) (by rfl) (by rfl) (by rfl) (by rfl) (by rfl) (by rfl)
theorem tyOk116 : TyOk Go.Proofs.Tryz.prog 116 ty116 := tyOk_of Tryz.type116 Tryz.underlying116 (by rfl) (by rfl) (by rfl) (by rfl) (by rfl) (by rfl) (by rfl) (by rfl)
theorem tyOk117 : TyOk Go.Proofs.Tryz.prog 117 ty117 := tyOk_of Tryz.type117 Tryz.underlying117 (by rfl) (by rfl) (by rfl) (by rfl) (by rfl) (by rfl) (by rfl) (by rfl)
theorem tyOk118 : TyOk Go.Proofs.Tryz.prog 118 ty118 := tyOk_of Tryz.type118 Tryz.underlying118 (by rfl) (by rfl) (by rfl) (by rfl) (by rfl) (by rfl) (by rfl) (by rfl)
theorem tyOk119 : TyOk Go.Proofs.Tryz.prog 119 ty119 := tyOk_of Tryz.type119 Tryz.underlying119 (by rfl) (by rfl) (by rfl) (by rfl) (by rfl) (by rfl) (by rfl) (by rfl)
theorem tyOk120 : TyOk Go.Proofs.Tryz.prog 120 ty120 := tyOk_of Tryz.type120 Tryz.underlying120 (by rfl) (by rfl) (by rfl) (by rfl) (by rfl) (by rfl) (by rfl) (by rfl)
theorem tyOk121 : TyOk Go.Proofs.Tryz.prog 121 ty121 := tyOk_of Tryz.type121 Tryz.underlying121 (by rfl) (by rfl) (by rfl) (by rfl) (by rfl) (by rfl) (by rfl) (by rfl)
theorem tyOk122 : TyOk Go.Proofs.Tryz.prog 122 ty122 := tyOk_of Tryz.type122 Tryz.underlying122 (by rfl) (by rfl) (by rfl) (by rfl) (by rfl) (by rfl) (by rfl) (by rfl)
theorem tyOk123 : TyOk Go.Proofs.Tryz.prog 123 ty123 := tyOk_of Tryz.type123 Tryz.underlying123 (by rfl) (by rfl) (by rfl) (by rfl) (by rfl) (by rfl) (by rfl) (by rfl)
theorem tyOk124 : TyOk Go.Proofs.Tryz.prog 124 ty124 := tyOk_of Tryz.type124 Tryz.underlying124 (by rfl) (by rfl) (by rfl) (by rfl) (by rfl) (by rfl) (by rfl) (by rfl)
theorem tyOk125 : TyOk Go.Proofs.Tryz.prog 125 ty125 := tyOk_of Tryz.type125 Tryz.underlying125 (by rfl) (by rfl) (by rfl) (by rfl) (by rfl) (by rfl) (by rfl) (by rfl)
theorem tyOk126 : TyOk Go.Proofs.Tryz.prog 126 ty126 := tyOk_of Tryz.type126 Tryz.underlying126 (by rfl) (by rfl) (by rfl) (by rfl) (by rfl) (by rfl) (by rfl) (by rfl)
theorem tyOk127 : TyOk Go.Proofs.Tryz.prog 127 ty127 := tyOk_of Tryz.type127 Tryz.underlying127 (by rfl) (by rfl) (by rfl) (by rfl) (by rfl) (by rfl) (by rfl) (by rfl)
theorem tyOk128 : TyOk Go.Proofs.Tryz.prog 128 ty128 := tyOk_of Tryz.type128 Tryz.underlying128 (by rfl) (by rfl) (by rfl) (by rfl) (by rfl) (by rfl) (by rfl) (by rfl)
theorem tyOk129 : TyOk Go.Proofs.Tryz.prog 129 ty129 := tyOk_of Tryz.type129 Tryz.underlying129 (by rfl) (by rfl) (by rfl) (by rfl) (by rfl) (by rfl) (by rfl) (by rfl)
theorem tyOk130 : TyOk Go.Proofs.Tryz.prog 130 ty130 := tyOk_of Tryz.type130 Tryz.underlying130 (by rfl) (by rfl) (by rfl) (by rfl) (by rfl) (by rfl) (by rfl) (by rfl)
theorem tyOk131 : TyOk Go.Proofs.Tryz.prog 131 ty131 := tyOk_of Tryz.type131 Tryz.underlying131 (by rfl) (by rfl) (by rfl) (by rfl) (by rfl) (by rfl) (by rfl) (by rfl)
theorem tyOk133 : TyOk Go.Proofs.Tryz.prog 133 ty133 := tyOk_of Tryz.type133 Tryz.underlying133 (by rfl) (by rfl) (by rfl) (by rfl) (by rfl) (by rfl) (by rfl) (by rfl)
theorem tyOk134 : TyOk Go.Proofs.Tryz.prog 134 ty134 := tyOk_of Tryz.type134 Tryz.underlying134 (by rfl) (by rfl) (by rfl) (by rfl) (by rfl) (by rfl) (by rfl) (by rfl)
theorem tyOk135 : TyOk Go.Proofs.Tryz.prog 135 ty135 := tyOk_of Tryz.type135 Tryz.underlying135 (by rfl) (by rfl) (by rfl) (by rfl) (by rfl) (by rfl) (by rfl) (by rfl)
theorem tyOk136 : TyOk Go.Proofs.Tryz.prog 136 ty136 := tyOk_of Tryz.type136 Tryz.underlying136 (by rfl) (by rfl) (by rfl) (by rfl) (by rfl) (by rfl) (by rfl) (by rfl)
theorem tyOk137 : TyOk Go.Proofs.Tryz.prog 137 ty137 := tyOk_of Tryz.type137 Tryz.underlying137 (by rfl) (by rfl) (by rfl) (by rfl) (by rfl) (by rfl) (by rfl) (by rfl)
theorem tyOk138 : TyOk Go.Proofs.Tryz.prog 138 ty138 := tyOk_of Tryz.type138 Tryz.underlying138 (by rfl) (by rfl) (by rfl) (by rfl) (by rfl) (by rfl) (by rfl) (by rfl)
theorem tyOk139 : TyOk Go.Proofs.Tryz.prog 139 ty139 := tyOk_of Tryz.type139 Tryz.underlying139 (by rfl) (by rfl) (by rfl) (by rfl) (by rfl) (by rfl) (by rfl) (by rfl)
theorem tyOk140 : TyOk Go.Proofs.Tryz.prog 140 ty140 := tyOk_of Tryz.type140 Tryz.underlying140 (by rfl) (by rfl) (by rfl) (by rfl) (by rfl) (by rfl) (by rfl) (by rfl)
theorem tyOk141 : TyOk Go.Proofs.Tryz.prog 141 ty141 := tyOk_of Tryz.type141 Tryz.underlying141 (by rfl) (by rfl) (by rfl) (by rfl) (by rfl) (by rfl) (by rfl) (by rfl)
theorem tyOk142 : TyOk Go.Proofs.Tryz.prog 142 ty142 := tyOk_of Tryz.type142 Tryz.underlying142 (by rfl) (by rfl) (by rfl) (by rfl) (by rfl) (by rfl) (by rfl) (by rfl)
theorem tyOk143 : TyOk Go.Proofs.Tryz.prog 143 ty143 := tyOk_of Tryz.type143 Tryz.underlying143 (by rfl) (by rfl) (by rfl) (by rfl) (by rfl) (by rfl) (by rfl) (by rfl)
theorem tyOk144 : TyOk Go.Proofs.Tryz.prog 144 ty144 := tyOk_of Tryz.type144 Tryz.underlying144 (by rfl) (by rfl) (by rfl) (by rfl) (by rfl) (by rfl) (by rfl) (by rfl)
theorem tyOk145 : TyOk Go.Proofs.Tryz.prog 145 ty145 := tyOk_of Tryz.type145 Tryz.underlying145 (by rfl) (by rfl) (by rfl) (by rfl) (by rfl) (by rfl) (by rfl) (by rfl)
theorem tyOk146 : TyOk Go.Proofs.Tryz.prog 146 ty146 := tyOk_of Tryz.type146 Tryz.underlying146 (by rfl) (by rfl) (by rfl) (by rfl) (by rfl) (by rfl) (by rfl) (by rfl)
theorem tyOk147 : TyOk Go.Proofs.Tryz.prog 147 ty147 := tyOk_of Tryz.type147 Tryz.underlying147 (by rfl) (by rfl) (by rfl) (by rfl) (by rfl) (by rfl) (by rfl) (by rfl)
theorem tyOk148 : TyOk Go.Proofs.Tryz.prog 148 ty148 := tyOk_of Tryz.type148 Tryz.underlying148 (by rfl) (by rfl) (by rfl) (by rfl) (by rfl) (by rfl) (by rfl) (by rfl)
theorem tyOk149 : TyOk Go.Proofs.Tryz.prog 149 ty149 := tyOk_of Tryz.type149 Tryz.underlying149 (by rfl) (by rfl) (by rfl) (by rfl) (by rfl) (by rfl) (by rfl) (by rfl)
theorem tyOk150 : TyOk Go.Proofs.Tryz.prog 150 ty150 := tyOk_of Tryz.type150 Tryz.underlying150 (by rfl) (by rfl) (by rfl) (by rfl) (by rfl) (by rfl) (by rfl) (by rfl)
theorem tyOk151 : TyOk Go.Proofs.Tryz.prog 151 ty151 := tyOk_of Tryz.type151 Tryz.underlying151 (by rfl) (by rfl) (by rfl) (by rfl) (by rfl) (by rfl) (by rfl) (by rfl)
theorem tyOk152 : TyOk Go.Proofs.Tryz.prog 152 ty152 := tyOk_of Tryz.type152 Tryz.underlying152 (by rfl) (by rfl) (by rfl) (by rfl) (by rfl) (by rfl) (by rfl) (by rfl)
theorem tyOk153 : TyOk Go.Proofs.Tryz.prog 153 ty153 := tyOk_of Tryz.type153 Tryz.underlying153 (by rfl) (by rfl) (by rfl) (by rfl) (by rfl) (by rfl) (by rfl) (by rfl)
theorem tyOk154 : TyOk Go.Proofs.Tryz.prog 154 ty154 := tyOk_of Tryz.type154 Tryz.underlying154 (by rfl) (by rfl) (by rfl) (by rfl) (by rfl) (by rfl) (by rfl) (by rfl)
theorem tyOk155 : TyOk Go.Proofs.Tryz.prog 155 ty155 := tyOk_of Tryz.type155 Tryz.underlying155 (by rfl) (by rfl) (by rfl) (by rfl) (by rfl) (by rfl) (by rfl) (by rfl)
theorem tyOk156 : TyOk Go.Proofs.Tryz.prog 156 ty156 := tyOk_of Tryz.type156 Tryz.underlying156 (by rfl) (by rfl) (by rfl) (by rfl) (by rfl) (by rfl) (by rfl) (by rfl)
theorem tyOk157 : TyOk Go.Proofs.Tryz.prog 157 ty157 := tyOk_of Tryz.type157 Tryz.underlying157 (by rfl) (by rfl) (by rfl) (by rfl) (by rfl) (by rfl) (by rfl) (by rfl)
theorem tyOk158 : TyOk Go.Proofs.Tryz.prog 158 ty158 := tyOk_of Tryz.type158 Tryz.underlying158 (by rfl) (by rfl) (by rfl) (by rfl) (by rfl) (by rfl) (by rfl) (by rfl)
theorem tyOk159 : TyOk Go.Proofs.Tryz.prog 159 ty159 := tyOk_of Tryz.type159 Tryz.underlying159 (by rfl) (by rfl) (by rfl) (by rfl) (by rfl) (by rfl) (by rfl) (by rfl)
theorem tyOk160 : TyOk Go.Proofs.Tryz.prog 160 ty160 := tyOk_of Tryz.type160 Tryz.underlying160 (by rfl) (by rfl) (by rfl) (by rfl) (by rfl) (by rfl) (by rfl) (by rfl)
theorem tyOk161 : TyOk Go.Proofs.Tryz.prog 161 ty161 := tyOk_of Tryz.type161 Tryz.underlying161 (by rfl) (by rfl) (by rfl) (by rfl) (by rfl) (by rfl) (by rfl) (by rfl)
theorem tyOk162 : TyOk Go.Proofs.Tryz.prog 162 ty162 := tyOk_of Tryz.type162 Tryz.underlying162 (by rfl) (by rfl) (by rfl) (by rfl) (by rfl) (by rfl) (by rfl) (by rfl)
theorem tyOk163 : TyOk Go.Proofs.Tryz.prog 163 ty163 := tyOk_of Tryz.type163 Tryz.underlying163 (by rfl) (by rfl) (by rfl) (by rfl) (by rfl) (by rfl) (by rfl) (by rfl)
theorem tyOk165 : TyOk Go.Proofs.Tryz.prog 165 ty165 := tyOk_of Tryz.type165 Tryz.underlying165 (by rfl) (by rfl) (by rfl) (by rfl) (by rfl) (by rfl) (by rfl) (by rfl)
theorem tyOk166 : TyOk Go.Proofs.Tryz.prog 166 ty166 := tyOk_of Tryz.type166 Tryz.underlying166 (by rfl) (by rfl) (by rfl) (by rfl) (by rfl) (by rfl) (by rfl) (by rfl)
theorem tyOk167 : TyOk Go.Proofs.Tryz.prog 167 ty167 := tyOk_of Tryz.type167 Tryz.underlying167 (by rfl) (by rfl) (by rfl) (by rfl) (by rfl) (by rfl) (by rfl) (by rfl)
theorem tyOk168 : TyOk Go.Proofs.Tryz.prog 168 ty168 := tyOk_of Tryz.type168 Tryz.underlying168 (by rfl) (by rfl) (by rfl) (by rfl) (by rfl) (by rfl) (by rfl) (by rfl)
theorem tyOk169 : TyOk Go.Proofs.Tryz.prog 169 ty169 := tyOk_of Tryz.type169 Tryz.underlying169 (by rfl) (by rfl) (by rfl) (by rfl) (by rfl) (by rfl) (by rfl) (by rfl)
theorem tyOk170 : TyOk Go.Proofs.Tryz.prog 170 ty170 := tyOk_of Tryz.type170 Tryz.underlying170 (by rfl) (by rfl) (by rfl) (by rfl) (by rfl) (by rfl) (by rfl) (by rfl)
theorem tyOk171 : TyOk Go.Proofs.Tryz.prog 171 ty171 := tyOk_of Tryz.type171 Tryz.underlying171 (by rfl) (by rfl) (by rfl) (by rfl) (by rfl) (by rfl) (by rfl) (by rfl)
theorem tyOk173 : TyOk Go.Proofs.Tryz.prog 173 ty173 := tyOk_of Tryz.type173 Tryz.underlying173 (by rfl) (by rfl) (by rfl) (by rfl) (by rfl) (by rfl) (by rfl) (by rfl)
theorem tyOk174 : TyOk Go.Proofs.Tryz.prog 174 ty174 := tyOk_of Tryz.type174 Tryz.underlying174 (by rfl) (by rfl) (by rfl) (by rfl) (by rfl) (by rfl) (by rfl) (by rfl)
theorem tyOk175 : TyOk Go.Proofs.Tryz.prog 175 ty175 := tyOk_of Tryz.type175 Tryz.underlying175 (by rfl) (by rfl) (by rfl) (by rfl) (by rfl) (by rfl) (by rfl) (by rfl)
theorem tyOk177 : TyOk Go.Proofs.Tryz.prog 177 ty177 := tyOk_of Tryz.type177 Tryz.underlying177 (by rfl) (by rfl) (by rfl) (by rfl) (by rfl) (by rfl) (by rfl) (by rfl)
theorem tyOk178 : TyOk Go.Proofs.Tryz.prog 178 ty178 := tyOk_of Tryz.type178 Tryz.underlying178 (by rfl) (by rfl) (by rfl) (by rfl) (by rfl) (by rfl) (by rfl) (by rfl)
theorem tyOk179 : TyOk Go.Proofs.Tryz.prog 179 ty179 := tyOk_of Tryz.type179 Tryz.underlying179 (by rfl) (by rfl) (by rfl) (by rfl) (by rfl) (by rfl) (by rfl) (by rfl)
theorem tyOk180 : TyOk Go.Proofs.Tryz.prog 180 ty180 := tyOk_of Tryz.type180 Tryz.underlying180 (by rfl) (by rfl) (by rfl) (by rfl) (by rfl) (by rfl) (by rfl) (by rfl)
theorem tyOk181 : TyOk Go.Proofs.Tryz.prog 181 ty181 := tyOk_of Tryz.type181 Tryz.underlying181 (by rfl) (by rfl) (by rfl) (by rfl) (by rfl) (by rfl) (by rfl) (by rfl)
theorem tyOk183 : TyOk Go.Proofs.Tryz.prog 183 ty183 := tyOk_of Tryz.type183 Tryz.underlying183 (by rfl) (by rfl) (by rfl) (by rfl) (by rfl) (by rfl) (by rfl) (by rfl)
theorem tyOk184 : TyOk Go.Proofs.Tryz.prog 184 ty184 := tyOk_of Tryz.type184 Tryz.underlying184 (by rfl) (by rfl) (by rfl) (by rfl) (by rfl) (by rfl) (by rfl) (by rfl)
theorem tyOk185 : TyOk Go.Proofs.Tryz.prog 185 ty185 := tyOk_of Tryz.type185 Tryz.underlying185 (by rfl) (by rfl) (by rfl) (by rfl) (by rfl) (by rfl) (by rfl) (by rfl)
theorem tyOk186 : TyOk Go.Proofs.Tryz.prog 186 ty186 := tyOk_of Tryz.type186 Tryz.underlying186 (by rfl) (by rfl) (by rfl) (by rfl) (by rfl) (by rfl) (by rfl) (by rfl)
theorem tyOk187 : TyOk Go.Proofs.Tryz.prog 187 ty187 := tyOk_of Tryz.type187 Tryz.underlying187 (by rfl) (by rfl) (by rfl) (by rfl) (by rfl) (by rfl) (by rfl) (by rfl)
theorem tyOk188 : TyOk Go.Proofs.Tryz.prog 188 ty188 := tyOk_of Tryz.type188 Tryz.underlying188 (by rfl) (by rfl) (by rfl) (by rfl) (by rfl) (by rfl) (by rfl) (by rfl)
theorem tyOk190 : TyOk Go.Proofs.Tryz.prog 190 ty190 := tyOk_of Tryz.type190 Tryz.underlying190 (by rfl) (by rfl) (by rfl) (by rfl) (by rfl) (by rfl) (by rfl) (by rfl)
theorem tyOk191 : TyOk Go.Proofs.Tryz.prog 191 ty191 := tyOk_of Tryz.type191 Tryz.underlying191 (by rfl) (by rfl) (by rfl) (by rfl) (by rfl) (by rfl) (by rfl) (by rfl)
theorem tyOk192 : TyOk Go.Proofs.Tryz.prog 192 ty192 := tyOk_of Tryz.type192 Tryz.underlying192 (by rfl) (by rfl) (by rfl) (by rfl) (by rfl) (by rfl) (by rfl) (by rfl)
theorem tyOk193 : TyOk Go.Proofs.Tryz.prog 193 ty193 := tyOk_of Tryz.type193 Tryz.underlying193 (by rfl) (by rfl) (by rfl) (by rfl) (by rfl) (by rfl) (by rfl) (by rfl)
theorem tyOk194 : TyOk Go.Proofs.Tryz.prog 194 ty194 := tyOk_of Tryz.type194 Tryz.underlying194 (by rfl) (by rfl) (by rfl) (by rfl) (by rfl) (by rfl) (by rfl) (by rfl)
theorem tyOk195 : TyOk Go.Proofs.Tryz.prog 195 ty195 := tyOk_of Tryz.type195 Tryz.underlying195 (by rfl) (by rfl) (by rfl) (by rfl) (by rfl) (by rfl) (by rfl) (by rfl)
theorem tyOk196 : TyOk Go.Proofs.Tryz.prog 196 ty196 := tyOk_of Tryz.type196 Tryz.underlying196 (by rfl) (by rfl) (by rfl) (by rfl) (by rfl) (by rfl) (by rfl) (by rfl)
theorem tyOk197 : TyOk Go.Proofs.Tryz.prog 197 ty197 := tyOk_of Tryz.type197 Tryz.underlying197 (by rfl) (by rfl) (by rfl) (by rfl) (by rfl) (by rfl) (by rfl) (by rfl)
theorem tyOk198 : TyOk Go.Proofs.Tryz.prog 198 ty198 := tyOk_of Tryz.type198 Tryz.underlying198 (by rfl) (by rfl) (by rfl) (by rfl) (by rfl) (by rfl) (by rfl) (by rfl)
theorem tyOk199 : TyOk Go.Proofs.Tryz.prog 199 ty199 := tyOk_of Tryz.type199 Tryz.underlying199 (by rfl) (by rfl) (by rfl) (by rfl) (by rfl) (by rfl) (by rfl) (by rfl)
theorem tyOk200 : TyOk Go.Proofs.Tryz.prog 200 ty200 := tyOk_of Tryz.type200 Tryz.underlying200 (by rfl) (by rfl) (by rfl) (by rfl) (by rfl) (by rfl) (by rfl) (by rfl)
theorem tyOk201 : TyOk Go.Proofs.Tryz.prog 201 ty201 := tyOk_of Tryz.type201 Tryz.underlying201 (by rfl) (by rfl) (by rfl) (by rfl) (by rfl) (by rfl) (by rfl) (by rfl)
theorem tyOk202 : TyOk Go.Proofs.Tryz.prog 202 ty202 := tyOk_of Tryz.type202 Tryz.underlying202 (by rfl) (by rfl) (by rfl) (by rfl) (by rfl) (by rfl) (by rfl) (by rfl)
theorem tyOk203 : TyOk Go.Proofs.Tryz.prog 203 ty203 := tyOk_of Tryz.type203 Tryz.underlying203 (by rfl) (by rfl) (by rfl) (by rfl) (by rfl) (by rfl) (by rfl) (by rfl)
theorem tyOk204 : TyOk Go.Proofs.Tryz.prog 204 ty204 := tyOk_of Tryz.type204 Tryz.underlying204 (by rfl) (by rfl) (by rfl) (by rfl) (by rfl) (by rfl) (by rfl) (by rfl)
theorem tyOk205 : TyOk Go.Proofs.Tryz.prog 205 ty205 := tyOk_of Tryz.type205 Tryz.underlying205 (by rfl) (by rfl) (by rfl) (by rfl) (by rfl) (by rfl) (by rfl) (by rfl)
theorem tyOk206 : TyOk Go.Proofs.Tryz.prog 206 ty206 := tyOk_of Tryz.type206 Tryz.underlying206 (by rfl) (by rfl) (by rfl) (by rfl) (by rfl) (by rfl) (by rfl) (by rfl)
theorem tyOk207 : TyOk Go.Proofs.Tryz.prog 207 ty207 := tyOk_of Tryz.type207 Tryz.underlying207 (by rfl) (by rfl) (by rfl) (by rfl) (by rfl) (by rfl) (by rfl) (by rfl)
theorem tyOk208 : TyOk Go.Proofs.Tryz.prog 208 ty208 := tyOk_of Tryz.type208 Tryz.underlying208 (by rfl) (by rfl) (by rfl) (by rfl) (by rfl) (by rfl) (by rfl) (by rfl)
theorem tyOk212 : TyOk Go.Proofs.Tryz.prog 212 ty212 := tyOk_of Tryz.type212 Tryz.underlying212 (by rfl) (by rfl) (by rfl) (by rfl) (by rfl) (by rfl) (by rfl) (by rfl)
theorem tyOk213 : TyOk Go.Proofs.Tryz.prog 213 ty213 := tyOk_of Tryz.type213 Tryz.underlying213 (by rfl) (by rfl) (by rfl) (by rfl) (by rfl) (by rfl) (by rfl) (by rfl)
theorem tyOk214 : TyOk Go.Proofs.Tryz.prog 214 ty214 := tyOk_of Tryz.type214 Tryz.underlying214 (by rfl) (by rfl) (by rfl) (by rfl) (by rfl) (by rfl) (by rfl) (by rfl)
theorem tyOk215 : TyOk Go.Proofs.Tryz.prog 215 ty215 := tyOk_of Tryz.type215 Tryz.underlying215 (by rfl) (by rfl) (by rfl) (by rfl) (by rfl) (by rfl) (by rfl) (by rfl)
theorem tyOk216 : TyOk Go.Proofs.Tryz.prog 216 ty216 := tyOk_of Tryz.type216 Tryz.underlying216 (by rfl) (by rfl) (by rfl) (by rfl) (by rfl) (by rfl) (by rfl) (by rfl)
theorem tyOk217 : TyOk Go.Proofs.Tryz.prog 217 ty217 := tyOk_of Tryz.type217 Tryz.underlying217 (by rfl) (by rfl) (by rfl) (by rfl) (by rfl) (by rfl) (by rfl) (by rfl)
theorem tyOk218 : TyOk Go.Proofs.Tryz.prog 218 ty218 := tyOk_of Tryz.type218 Tryz.underlying218 (by rfl) (by rfl) (by rfl) (by rfl) (by rfl) (by rfl) (by rfl) (by rfl)
theorem tyOk219 : TyOk Go.Proofs.Tryz.prog 219 ty219 := tyOk_of Tryz.type219 Tryz.underlying219 (by rfl) (by rfl) (by rfl) (by rfl) (by rfl) (by rfl) (by rfl) (by rfl)
theorem tyOk220 : TyOk Go.Proofs.Tryz.prog 220 ty220 := tyOk_of Tryz.type220 Tryz.underlying220 (by rfl) (by rfl) (by rfl) (by rfl) (by rfl) (by rfl) (by rfl) (by rfl)
theorem tyOk221 : TyOk Go.Proofs.Tryz.prog 221 ty221 := tyOk_of Tryz.type221 Tryz.underlying221 (by rfl) (by rfl) (by rfl) (by rfl) (by rfl) (by rfl) (by rfl) (by rfl)
theorem T_ok : ∀ t ti, T t = some ti → TyOk Go.Proofs.Tryz.prog t ti := by
  intro t ti h
  unfold T at h
  repeat' split at h
  all_goals first | (cases h; done) | skip
  · rename_i hb; cases h; rw [Nat.eq_of_beq_eq_true hb]; exact tyOk1
  · rename_i hb; cases h; rw [Nat.eq_of_beq_eq_true hb]; exact tyOk2
  · rename_i hb; cases h; rw [Nat.eq_of_beq_eq_true hb]; exact tyOk3
  · rename_i hb; cases h; rw [Nat.eq_of_beq_eq_true hb]; exact tyOk4
  · rename_i hb; cases h; rw [Nat.eq_of_beq_eq_true hb]; exact tyOk5
  · rename_i hb; cases h; rw [Nat.eq_of_beq_eq_true hb]; exact tyOk6
  · rename_i hb; cases h; rw [Nat.eq_of_beq_eq_true hb]; exact tyOk7
  · rename_i hb; cases h; rw [Nat.eq_of_beq_eq_true hb]; exact tyOk8
  · rename_i hb; cases h; rw [Nat.eq_of_beq_eq_true hb]; exact tyOk9
  · rename_i hb; cases h; rw [Nat.eq_of_beq_eq_true hb]; exact tyOk10
  · rename_i hb; cases h; rw [Nat.eq_of_beq_eq_true hb]; exact tyOk11
  · rename_i hb; cases h; rw [Nat.eq_of_beq_eq_true hb]; exact tyOk12
  · rename_i hb; cases h; rw [Nat.eq_of_beq_eq_true hb]; exact tyOk13
  · rename_i hb; cases h; rw [Nat.eq_of_beq_eq_true hb]; exact tyOk14
  · rename_i hb; cases h; rw [Nat.eq_of_beq_eq_true hb]; exact tyOk15
  · rename_i hb; cases h; rw [Nat.eq_of_beq_eq_true hb]; exact tyOk16
  · rename_i hb; cases h; rw [Nat.eq_of_beq_eq_true hb]; exact tyOk17
  · rename_i hb; cases h; rw [Nat.eq_of_beq_eq_true hb]; exact tyOk18
  · rename_i hb; cases h; rw [Nat.eq_of_beq_eq_true hb]; exact tyOk19
  · rename_i hb; cases h; rw [Nat.eq_of_beq_eq_true hb]; exact tyOk20
  · rename_i hb; cases h; rw [Nat.eq_of_beq_eq_true hb]; exact tyOk21
  · rename_i hb; cases h; rw [Nat.eq_of_beq_eq_true hb]; exact tyOk22
  · rename_i hb; cases h; rw [Nat.eq_of_beq_eq_true hb]; exact tyOk23
  · rename_i hb; cases h; rw [Nat.eq_of_beq_eq_true hb]; exact tyOk24
  · rename_i hb; cases h; rw [Nat.eq_of_beq_eq_true hb]; exact tyOk25
  · rename_i hb; cases h; rw [Nat.eq_of_beq_eq_true hb]; exact tyOk26
  · rename_i hb; cases h; rw [Nat.eq_of_beq_eq_true hb]; exact tyOk27
  · rename_i hb; cases h; rw [Nat.eq_of_beq_eq_true hb]; exact tyOk28
  · rename_i hb; cases h; rw [Nat.eq_of_beq_eq_true hb]; exact tyOk29
  · rename_i hb; cases h; rw [Nat.eq_of_beq_eq_true hb]; exact tyOk30
  · rename_i hb; cases h; rw [Nat.eq_of_beq_eq_true hb]; exact tyOk31
  · rename_i hb; cases h; rw [Nat.eq_of_beq_eq_true hb]; exact tyOk32
  · rename_i hb; cases h; rw [Nat.eq_of_beq_eq_true hb]; exact tyOk33
  · rename_i hb; cases h; rw [Nat.eq_of_beq_eq_true hb]; exact tyOk34
  · rename_i hb; cases h; rw [Nat.eq_of_beq_eq_true hb]; exact tyOk35
  · rename_i hb; cases h; rw [Nat.eq_of_beq_eq_true hb]; exact tyOk36
  · rename_i hb; cases h; rw [Nat.eq_of_beq_eq_true hb]; exact tyOk37
  · rename_i hb; cases h; rw [Nat.eq_of_beq_eq_true hb]; exact tyOk38
  · rename_i hb; cases h; rw [Nat.eq_of_beq_eq_true hb]; exact tyOk40
  · rename_i hb; cases h; rw [Nat.eq_of_beq_eq_true hb]; exact tyOk41
  · rename_i hb; cases h; rw [Nat.eq_of_beq_eq_true hb]; exact tyOk42
  · rename_i hb; cases h; rw [Nat.eq_of_beq_eq_true hb]; exact tyOk44
  · rename_i hb; cases h; rw [Nat.eq_of_beq_eq_true hb]; exact tyOk46
  · rename_i hb; cases h; rw [Nat.eq_of_beq_eq_true hb]; exact tyOk47
  · rename_i hb; cases h; rw [Nat.eq_of_beq_eq_true hb]; exact tyOk48
  · rename_i hb; cases h; rw [Nat.eq_of_beq_eq_true hb]; exact tyOk49
  · rename_i hb; cases h; rw [Nat.eq_of_beq_eq_true hb]; exact tyOk50
  · rename_i hb; cases h; rw [Nat.eq_of_beq_eq_true hb]; exact tyOk51
  · rename_i hb; cases h; rw [Nat.eq_of_beq_eq_true hb]; exact tyOk53
  · rename_i hb; cases h; rw [Nat.eq_of_beq_eq_true hb]; exact tyOk54
  · rename_i hb; cases h; rw [Nat.eq_of_beq_eq_true hb]; exact tyOk55
  · rename_i hb; cases h; rw [Nat.eq_of_beq_eq_true hb]; exact tyOk56
  · rename_i hb; cases h; rw [Nat.eq_of_beq_eq_true hb]; exact tyOk57
  · rename_i hb; cases h; rw [Nat.eq_of_beq_eq_true hb]; exact tyOk58
  · rename_i hb; cases h; rw [Nat.eq_of_beq_eq_true hb]; exact tyOk59
  · rename_i hb; cases h; rw [Nat.eq_of_beq_eq_true hb]; exact tyOk60
  · rename_i hb; cases h; rw [Nat.eq_of_beq_eq_true hb]; exact tyOk61
  · rename_i hb; cases h; rw [Nat.eq_of_beq_eq_true hb]; exact tyOk63
  · rename_i hb; cases h; rw [Nat.eq_of_beq_eq_true hb]; exact tyOk64
  · rename_i hb; cases h; rw [Nat.eq_of_beq_eq_true hb]; exact tyOk65
  · rename_i hb; cases h; rw [Nat.eq_of_beq_eq_true hb]; exact tyOk66
  · rename_i hb; cases h; rw [Nat.eq_of_beq_eq_true hb]; exact tyOk67
  · rename_i hb; cases h; rw [Nat.eq_of_beq_eq_true hb]; exact tyOk68
  · rename_i hb; cases h; rw [Nat.eq_of_beq_eq_true hb]; exact tyOk69
  · rename_i hb; cases h; rw [Nat.eq_of_beq_eq_true hb]; exact tyOk70
  · rename_i hb; cases h; rw [Nat.eq_of_beq_eq_true hb]; exact tyOk71
  · rename_i hb; cases h; rw [Nat.eq_of_beq_eq_true hb]; exact tyOk72
  · rename_i hb; cases h; rw [Nat.eq_of_beq_eq_true hb]; exact tyOk73
  · rename_i hb; cases h; rw [Nat.eq_of_beq_eq_true hb]; exact tyOk74
  · rename_i hb; cases h; rw [Nat.eq_of_beq_eq_true hb]; exact tyOk75
  · rename_i hb; cases h; rw [Nat.eq_of_beq_eq_true hb]; exact tyOk77
  · rename_i hb; cases h; rw [Nat.eq_of_beq_eq_true hb]; exact tyOk78
  · rename_i hb; cases h; rw [Nat.eq_of_beq_eq_true hb]; exact tyOk79
  · rename_i hb; cases h; rw [Nat.eq_of_beq_eq_true hb]; exact tyOk80
  · rename_i hb; cases h; rw [Nat.eq_of_beq_eq_true hb]; exact tyOk81
  · rename_i hb; cases h; rw [Nat.eq_of_beq_eq_true hb]; exact tyOk82
  · rename_i hb; cases h; rw [Nat.eq_of_beq_eq_true hb]; exact tyOk83
  · rename_i hb; cases h; rw [Nat.eq_of_beq_eq_true hb]; exact tyOk84
  · rename_i hb; cases h; rw [Nat.eq_of_beq_eq_true hb]; exact tyOk86
  · rename_i hb; cases h; rw [Nat.eq_of_beq_eq_true hb]; exact tyOk87
  · rename_i hb; cases h; rw [Nat.eq_of_beq_eq_true hb]; exact tyOk88
  · rename_i hb; cases h; rw [Nat.eq_of_beq_eq_true hb]; exact tyOk90
  · rename_i hb; cases h; rw [Nat.eq_of_beq_eq_true hb]; exact tyOk91
  · rename_i hb; cases h; rw [Nat.eq_of_beq_eq_true hb]; exact tyOk92
  · rename_i hb; cases h; rw [Nat.eq_of_beq_eq_true hb]; exact tyOk93
  · rename_i hb; cases h; rw [Nat.eq_of_beq_eq_true hb]; exact tyOk94
  · rename_i hb; cases h; rw [Nat.eq_of_beq_eq_true hb]; exact tyOk96
  · rename_i hb; cases h; rw [Nat.eq_of_beq_eq_true hb]; exact tyOk97
  · rename_i hb; cases h; rw [Nat.eq_of_beq_eq_true hb]; exact tyOk98
  · rename_i hb; cases h; rw [Nat.eq_of_beq_eq_true hb]; exact tyOk99
  · rename_i hb; cases h; rw [Nat.eq_of_beq_eq_true hb]; exact tyOk100
  · rename_i hb; cases h; rw [Nat.eq_of_beq_eq_true hb]; exact tyOk101
  · rename_i hb; cases h; rw [Nat.eq_of_beq_eq_true hb]; exact tyOk103
  · rename_i hb; cases h; rw [Nat.eq_of_beq_eq_true hb]; exact tyOk104
  · rename_i hb; cases h; rw [Nat.eq_of_beq_eq_true hb]; exact tyOk106
  · rename_i hb; cases h; rw [Nat.eq_of_beq_eq_true hb]; exact tyOk108
  · rename_i hb; cases h; rw [Nat.eq_of_beq_eq_true hb]; exact tyOk109
  · rename_i hb; cases h; rw [Nat.eq_of_beq_eq_true hb]; exact tyOk110
  · rename_i hb; cases h; rw [Nat.eq_of_beq_eq_true hb]; exact tyOk111
  · rename_i hb; cases h; rw [Nat.eq_of_beq_eq_true hb]; exact tyOk112
  · rename_i hb; cases h; rw [Nat.eq_of_beq_eq_true hb]; exact tyOk113
  · rename_i hb; cases h; rw [Nat.eq_of_beq_eq_true hb]; exact tyOk114
  · rename_i hb; cases h; rw [Nat.eq_of_beq_eq_true hb]; exact tyOk115
  · rename_i hb; cases h; rw [Nat.eq_of_beq_eq_true hb]; exact tyOk116
  · rename_i hb; cases h; rw [Nat.eq_of_beq_eq_true hb]; exact tyOk117
  · rename_i hb; cases h; rw [Nat.eq_of_beq_eq_true hb]; exact tyOk118
  · rename_i hb; cases h; rw [Nat.eq_of_beq_eq_true hb]; exact tyOk119
  · rename_i hb; cases h; rw [Nat.eq_of_beq_eq_true hb]; exact tyOk120
  · rename_i hb; cases h; rw [Nat.eq_of_beq_eq_true hb]; exact tyOk121
  · rename_i hb; cases h; rw [Nat.eq_of_beq_eq_true hb]; exact tyOk122
  · rename_i hb; cases h; rw [Nat.eq_of_beq_eq_true hb]; exact tyOk123
  · rename_i hb; cases h; rw [Nat.eq_of_beq_eq_true hb]; exact tyOk124
  · rename_i hb; cases h; rw [Nat.eq_of_beq_eq_true hb]; exact tyOk125
  · rename_i hb; cases h; rw [Nat.eq_of_beq_eq_true hb]; exact tyOk126
  · rename_i hb; cases h; rw [Nat.eq_of_beq_eq_true hb]; exact tyOk127
  · rename_i hb; cases h; rw [Nat.eq_of_beq_eq_true hb]; exact tyOk128
  · rename_i hb; cases h; rw [Nat.eq_of_beq_eq_true hb]; exact tyOk129
  · rename_i hb; cases h; rw [Nat.eq_of_beq_eq_true hb]; exact tyOk130
  · rename_i hb; cases h; rw [Nat.eq_of_beq_eq_true hb]; exact tyOk131
  · rename_i hb; cases h; rw [Nat.eq_of_beq_eq_true hb]; exact tyOk133
  · rename_i hb; cases h; rw [Nat.eq_of_beq_eq_true hb]; exact tyOk134
  · rename_i hb; cases h; rw [Nat.eq_of_beq_eq_true hb]; exact tyOk135
  · rename_i hb; cases h; rw [Nat.eq_of_beq_eq_true hb]; exact tyOk136
  · rename_i hb; cases h; rw [Nat.eq_of_beq_eq_true hb]; exact tyOk137
  · rename_i hb; cases h; rw [Nat.eq_of_beq_eq_true hb]; exact tyOk138
  · rename_i hb; cases h; rw [Nat.eq_of_beq_eq_true hb]; exact tyOk139
  · rename_i hb; cases h; rw [Nat.eq_of_beq_eq_true hb]; exact tyOk140
  · rename_i hb; cases h; rw [Nat.eq_of_beq_eq_true hb]; exact tyOk141
  · rename_i hb; cases h; rw [Nat.eq_of_beq_eq_true hb]; exact tyOk142
  · rename_i hb; cases h; rw [Nat.eq_of_beq_eq_true hb]; exact tyOk143
  · rename_i hb; cases h; rw [Nat.eq_of_beq_eq_true hb]; exact tyOk144
  · rename_i hb; cases h; rw [Nat.eq_of_beq_eq_true hb]; exact tyOk145
  · rename_i hb; cases h; rw [Nat.eq_of_beq_eq_true hb]; exact tyOk146
  · rename_i hb; cases h; rw [Nat.eq_of_beq_eq_true hb]; exact tyOk147
  · rename_i hb; cases h; rw [Nat.eq_of_beq_eq_true hb]; exact tyOk148
  · rename_i hb; cases h; rw [Nat.eq_of_beq_eq_true hb]; exact tyOk149
  · rename_i hb; cases h; rw [Nat.eq_of_beq_eq_true hb]; exact tyOk150
  · rename_i hb; cases h; rw [Nat.eq_of_beq_eq_true hb]; exact tyOk151
  · rename_i hb; cases h; rw [Nat.eq_of_beq_eq_true hb]; exact tyOk152
  · rename_i hb; cases h; rw [Nat.eq_of_beq_eq_true hb]; exact tyOk153
  · rename_i hb; cases h; rw [Nat.eq_of_beq_eq_true hb]; exact tyOk154
  · rename_i hb; cases h; rw [Nat.eq_of_beq_eq_true hb]; exact tyOk155
  · rename_i hb; cases h; rw [Nat.eq_of_beq_eq_true hb]; exact tyOk156
  · rename_i hb; cases h; rw [Nat.eq_of_beq_eq_true hb]; exact tyOk157
  · rename_i hb; cases h; rw [Nat.eq_of_beq_eq_true hb]; exact tyOk158
  · rename_i hb; cases h; rw [Nat.eq_of_beq_eq_true hb]; exact tyOk159
  · rename_i hb; cases h; rw [Nat.eq_of_beq_eq_true hb]; exact tyOk160
  · rename_i hb; cases h; rw [Nat.eq_of_beq_eq_true hb]; exact tyOk161
  · rename_i hb; cases h; rw [Nat.eq_of_beq_eq_true hb]; exact tyOk162
  · rename_i hb; cases h; rw [Nat.eq_of_beq_eq_true hb]; exact tyOk163
  · rename_i hb; cases h; rw [Nat.eq_of_beq_eq_true hb]; exact tyOk165
  · rename_i hb; cases h; rw [Nat.eq_of_beq_eq_true hb]; exact tyOk166
  · rename_i hb; cases h; rw [Nat.eq_of_beq_eq_true hb]; exact tyOk167
  · rename_i hb; cases h; rw [Nat.eq_of_beq_eq_true hb]; exact tyOk168
  · rename_i hb; cases h; rw [Nat.eq_of_beq_eq_true hb]; exact tyOk169
  · rename_i hb; cases h; rw [Nat.eq_of_beq_eq_true hb]; exact tyOk170
  · rename_i hb; cases h; rw [Nat.eq_of_beq_eq_true hb]; exact tyOk171
  · rename_i hb; cases h; rw [Nat.eq_of_beq_eq_true hb]; exact tyOk173
  · rename_i hb; cases h; rw [Nat.eq_of_beq_eq_true hb]; exact tyOk174
  · rename_i hb; cases h; rw [Nat.eq_of_beq_eq_true hb]; exact tyOk175
  · rename_i hb; cases h; rw [Nat.eq_of_beq_eq_true hb]; exact tyOk177
  · rename_i hb; cases h; rw [Nat.eq_of_beq_eq_true hb]; exact tyOk178
  · rename_i hb; cases h; rw [Nat.eq_of_beq_eq_true hb]; exact tyOk179
  · rename_i hb; cases h; rw [Nat.eq_of_beq_eq_true hb]; exact tyOk180
  · rename_i hb; cases h; rw [Nat.eq_of_beq_eq_true hb]; exact tyOk181
  · rename_i hb; cases h; rw [Nat.eq_of_beq_eq_true hb]; exact tyOk183
  · rename_i hb; cases h; rw [Nat.eq_of_beq_eq_true hb]; exact tyOk184
  · rename_i hb; cases h; rw [Nat.eq_of_beq_eq_true hb]; exact tyOk185
  · rename_i hb; cases h; rw [Nat.eq_of_beq_eq_true hb]; exact tyOk186
  · rename_i hb; cases h; rw [Nat.eq_of_beq_eq_true hb]; exact tyOk187
  · rename_i hb; cases h; rw [Nat.eq_of_beq_eq_true hb]; exact tyOk188
  · rename_i hb; cases h; rw [Nat.eq_of_beq_eq_true hb]; exact tyOk190
  · rename_i hb; cases h; rw [Nat.eq_of_beq_eq_true hb]; exact tyOk191
  · rename_i hb; cases h; rw [Nat.eq_of_beq_eq_true hb]; exact tyOk192
  · rename_i hb; cases h; rw [Nat.eq_of_beq_eq_true hb]; exact tyOk193
  · rename_i hb; cases h; rw [Nat.eq_of_beq_eq_true hb]; exact tyOk194
  · rename_i hb; cases h; rw [Nat.eq_of_beq_eq_true hb]; exact tyOk195
  · rename_i hb; cases h; rw [Nat.eq_of_beq_eq_true hb]; exact tyOk196
  · rename_i hb; cases h; rw [Nat.eq_of_beq_eq_true hb]; exact tyOk197
  · rename_i hb; cases h; rw [Nat.eq_of_beq_eq_true hb]; exact tyOk198
  · rename_i hb; cases h; rw [Nat.eq_of_beq_eq_true hb]; exact tyOk199
  · rename_i hb; cases h; rw [Nat.eq_of_beq_eq_true hb]; exact tyOk200
  · rename_i hb; cases h; rw [Nat.eq_of_beq_eq_true hb]; exact tyOk201
  · rename_i hb; cases h; rw [Nat.eq_of_beq_eq_true hb]; exact tyOk202
  · rename_i hb; cases h; rw [Nat.eq_of_beq_eq_true hb]; exact tyOk203
  · rename_i hb; cases h; rw [Nat.eq_of_beq_eq_true hb]; exact tyOk204
  · rename_i hb; cases h; rw [Nat.eq_of_beq_eq_true hb]; exact tyOk205
  · rename_i hb; cases h; rw [Nat.eq_of_beq_eq_true hb]; exact tyOk206
  · rename_i hb; cases h; rw [Nat.eq_of_beq_eq_true hb]; exact tyOk207
  · rename_i hb; cases h; rw [Nat.eq_of_beq_eq_true hb]; exact tyOk208
  · rename_i hb; cases h; rw [Nat.eq_of_beq_eq_true hb]; exact tyOk212
  · rename_i hb; cases h; rw [Nat.eq_of_beq_eq_true hb]; exact tyOk213
  · rename_i hb; cases h; rw [Nat.eq_of_beq_eq_true hb]; exact tyOk214
  · rename_i hb; cases h; rw [Nat.eq_of_beq_eq_true hb]; exact tyOk215
  · rename_i hb; cases h; rw [Nat.eq_of_beq_eq_true hb]; exact tyOk216
  · rename_i hb; cases h; rw [Nat.eq_of_beq_eq_true hb]; exact tyOk217
  · rename_i hb; cases h; rw [Nat.eq_of_beq_eq_true hb]; exact tyOk218
  · rename_i hb; cases h; rw [Nat.eq_of_beq_eq_true hb]; exact tyOk219
  · rename_i hb; cases h; rw [Nat.eq_of_beq_eq_true hb]; exact tyOk220
  · rename_i hb; cases h; rw [Nat.eq_of_beq_eq_true hb]; exact tyOk221
end Go.Sx.Tryz
end
