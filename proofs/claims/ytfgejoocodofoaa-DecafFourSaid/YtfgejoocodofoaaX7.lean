/-
  Part of the proof of a statement: the means.
-/
import Derived.Test.YtfgejoocodofoaaChecked
import Derived.Test.YtfgejoocodofoaaX3
set_option linter.unusedSectionVars false
set_option linter.unusedVariables false
set_option linter.unusedSimpArgs false
set_option linter.deprecated false
section
set_option maxRecDepth 100000
namespace Go.Sx.Try
open Go.Proofs
def ty1 : TI := ⟨1, false, 8, .val Value.nilFunc, .other⟩
def ty2 : TI := ⟨1, false, 8, .lit .i64 0, .int .i64⟩
def ty3 : TI := ⟨1, false, 8, .lit .i64 0, .int .i64⟩
def ty4 : TI := ⟨1, false, 1, .bl false, .bool⟩
def ty5 : TI := ⟨1, false, 1, .lit .u8 0, .int .u8⟩
def ty6 : TI := ⟨1, false, 1, .lit .u8 0, .int .u8⟩
def ty7 : TI := ⟨4, true, 24, .agg [.lit .i64 0, .lit .i64 0, .bl false, .lit .u8 0], .st [(0, 2), (1, 3), (2, 4), (3, 6)]⟩
def ty8 : TI := ⟨4, true, 24, .agg [.lit .i64 0, .lit .i64 0, .bl false, .lit .u8 0], .st [(0, 2), (1, 3), (2, 4), (3, 6)]⟩
def ty9 : TI := ⟨1, false, 16, .val (.string ⟨#[]⟩), .str⟩
def ty10 : TI := ⟨1, false, 16, .val (.string ⟨#[]⟩), .str⟩
def ty11 : TI := ⟨1, false, 16, .val (.string ⟨#[]⟩), .str⟩
def ty12 : TI := ⟨1, false, 8, .lit .u64 0, .int .u64⟩
def ty13 : TI := ⟨2, true, 24, .agg [.val (.string ⟨#[]⟩), .lit .u64 0], .st [(0, 9), (1, 12)]⟩
def ty14 : TI := ⟨2, true, 24, .agg [.val (.string ⟨#[]⟩), .lit .u64 0], .st [(0, 9), (1, 12)]⟩
def ty15 : TI := ⟨1, false, 8, .val (.pointer none), .ptr 121⟩
def ty16 : TI := ⟨1, false, 8, .val (.pointer none), .ptr 124⟩
def ty17 : TI := ⟨1, false, 8, .val (.pointer none), .ptr 134⟩
def ty18 : TI := ⟨1, true, 8, .agg [.val (.pointer none)], .st [(0, 17)]⟩
def ty19 : TI := ⟨1, true, 8, .agg [.val (.pointer none)], .st [(0, 17)]⟩
def ty20 : TI := ⟨1, false, 16, .val Value.nilIface, .other⟩
def ty21 : TI := ⟨1, false, 4, .lit .i32 0, .int .i32⟩
def ty22 : TI := ⟨1, false, 24, .val (.slice none 0 0), .slice 5⟩
def ty23 : TI := ⟨2, true, 32, .agg [.val (.slice none 0 0), .lit .i64 0], .st [(0, 22), (1, 3)]⟩
def ty24 : TI := ⟨2, true, 32, .agg [.val (.slice none 0 0), .lit .i64 0], .st [(0, 22), (1, 3)]⟩
def ty25 : TI := ⟨4, true, 64, .agg [.agg [.val (.slice none 0 0), .lit .i64 0], .agg [.val (.slice none 0 0), .lit .i64 0]], .arr 2 24⟩
def ty26 : TI := ⟨1, false, 8, .lit .u64 0, .int .u64⟩
def ty27 : TI := ⟨8, true, 64, .row .u64 8 [0, 0, 0, 0, 0, 0, 0, 0], .arr 8 26⟩
def ty28 : TI := ⟨8, true, 64, .agg [.row .u64 8 [0, 0, 0, 0, 0, 0, 0, 0]], .st [(0, 27)]⟩
def ty29 : TI := ⟨8, true, 64, .agg [.row .u64 8 [0, 0, 0, 0, 0, 0, 0, 0]], .st [(0, 27)]⟩
def ty30 : TI := ⟨24, true, 192, .agg [.agg [.row .u64 8 [0, 0, 0, 0, 0, 0, 0, 0]], .agg [.row .u64 8 [0, 0, 0, 0, 0, 0, 0, 0]], .agg [.row .u64 8 [0, 0, 0, 0, 0, 0, 0, 0]]], .st [(0, 29), (8, 29), (16, 29)]⟩
def ty31 : TI := ⟨24, true, 192, .agg [.agg [.row .u64 8 [0, 0, 0, 0, 0, 0, 0, 0]], .agg [.row .u64 8 [0, 0, 0, 0, 0, 0, 0, 0]], .agg [.row .u64 8 [0, 0, 0, 0, 0, 0, 0, 0]]], .st [(0, 29), (8, 29), (16, 29)]⟩
def ty32 : TI := ⟨16, true, 128, .row .i64 16 [0, 0, 0, 0, 0, 0, 0, 0, 0, 0, 0, 0, 0, 0, 0, 0], .arr 16 3⟩
def ty33 : TI := ⟨16, true, 128, .row .i64 16 [0, 0, 0, 0, 0, 0, 0, 0, 0, 0, 0, 0, 0, 0, 0, 0], .arr 16 3⟩
def ty34 : TI := ⟨48, true, 384, .agg [.row .i64 16 [0, 0, 0, 0, 0, 0, 0, 0, 0, 0, 0, 0, 0, 0, 0, 0], .row .i64 16 [0, 0, 0, 0, 0, 0, 0, 0, 0, 0, 0, 0, 0, 0, 0, 0], .row .i64 16 [0, 0, 0, 0, 0, 0, 0, 0, 0, 0, 0, 0, 0, 0, 0, 0]], .st [(0, 33), (16, 33), (32, 33)]⟩
def ty35 : TI := ⟨48, true, 384, .agg [.row .i64 16 [0, 0, 0, 0, 0, 0, 0, 0, 0, 0, 0, 0, 0, 0, 0, 0], .row .i64 16 [0, 0, 0, 0, 0, 0, 0, 0, 0, 0, 0, 0, 0, 0, 0, 0], .row .i64 16 [0, 0, 0, 0, 0, 0, 0, 0, 0, 0, 0, 0, 0, 0, 0, 0]], .st [(0, 33), (16, 33), (32, 33)]⟩
def ty37 : TI := ⟨1, false, 8, .val Value.nilFunc, .other⟩
def ty38 : TI := ⟨1, false, 8, .val Value.nilFunc, .other⟩
def ty39 : TI := ⟨1, false, 8, .val Value.nilFunc, .other⟩
def ty40 : TI := ⟨1, false, 8, .val Value.nilFunc, .other⟩
def ty41 : TI := ⟨1, false, 8, .val Value.nilFunc, .other⟩
def ty42 : TI := ⟨24, true, 192, .agg [.agg [.agg [.row .u64 8 [0, 0, 0, 0, 0, 0, 0, 0]], .agg [.row .u64 8 [0, 0, 0, 0, 0, 0, 0, 0]], .agg [.row .u64 8 [0, 0, 0, 0, 0, 0, 0, 0]]]], .st [(0, 31)]⟩
def ty43 : TI := ⟨24, true, 192, .agg [.agg [.agg [.row .u64 8 [0, 0, 0, 0, 0, 0, 0, 0]], .agg [.row .u64 8 [0, 0, 0, 0, 0, 0, 0, 0]], .agg [.row .u64 8 [0, 0, 0, 0, 0, 0, 0, 0]]]], .st [(0, 31)]⟩
def ty44 : TI := ⟨1, false, 8, .val Value.nilFunc, .other⟩
def ty45 : TI := ⟨1, false, 8, .val Value.nilFunc, .other⟩
def ty46 : TI := ⟨1, false, 8, .val Value.nilFunc, .other⟩
def ty47 : TI := ⟨1, false, 8, .val Value.nilFunc, .other⟩
def ty48 : TI := ⟨1, false, 8, .val Value.nilFunc, .other⟩
def ty49 : TI := ⟨1, false, 8, .val Value.nilFunc, .other⟩
def ty50 : TI := ⟨1, false, 8, .val Value.nilFunc, .other⟩
def ty51 : TI := ⟨1, false, 8, .val Value.nilFunc, .other⟩
def ty52 : TI := ⟨1, false, 8, .lit .i64 0, .int .i64⟩
def ty54 : TI := ⟨1, false, 8, .val Value.nilFunc, .other⟩
def ty55 : TI := ⟨1, false, 8, .val Value.nilFunc, .other⟩
def ty56 : TI := ⟨1, false, 8, .val Value.nilFunc, .other⟩
def ty57 : TI := ⟨1, false, 8, .val Value.nilFunc, .other⟩
def ty59 : TI := ⟨1, false, 8, .val Value.nilFunc, .other⟩
def ty60 : TI := ⟨1, false, 8, .val Value.nilFunc, .other⟩
def ty61 : TI := ⟨1, false, 8, .val Value.nilFunc, .other⟩
def ty62 : TI := ⟨1, false, 8, .val Value.nilFunc, .other⟩
def ty63 : TI := ⟨1, false, 8, .val Value.nilFunc, .other⟩
def ty64 : TI := ⟨1, false, 8, .val Value.nilFunc, .other⟩
def ty66 : TI := ⟨1, false, 8, .val Value.nilFunc, .other⟩
def ty67 : TI := ⟨1, false, 8, .val Value.nilFunc, .other⟩
def ty68 : TI := ⟨1, false, 8, .val Value.nilFunc, .other⟩
def ty69 : TI := ⟨1, false, 8, .val Value.nilFunc, .other⟩
def ty70 : TI := ⟨1, false, 8, .val Value.nilFunc, .other⟩
def ty71 : TI := ⟨1, false, 8, .val Value.nilFunc, .other⟩
def ty72 : TI := ⟨1, false, 8, .val Value.nilFunc, .other⟩
def ty73 : TI := ⟨1, false, 8, .val Value.nilFunc, .other⟩
def ty74 : TI := ⟨1, false, 8, .val Value.nilFunc, .other⟩
def ty75 : TI := ⟨1, false, 8, .val Value.nilFunc, .other⟩
def ty76 : TI := ⟨1, false, 8, .val Value.nilFunc, .other⟩
def ty78 : TI := ⟨1, false, 8, .val Value.nilFunc, .other⟩
def ty80 : TI := ⟨1, false, 8, .val Value.nilFunc, .other⟩
def ty81 : TI := ⟨1, false, 8, .val Value.nilFunc, .other⟩
def ty82 : TI := ⟨1, false, 8, .val Value.nilFunc, .other⟩
def ty83 : TI := ⟨1, false, 8, .val Value.nilFunc, .other⟩
def ty85 : TI := ⟨1, false, 8, .val Value.nilFunc, .other⟩
def ty86 : TI := ⟨1, false, 8, .val Value.nilFunc, .other⟩
def ty87 : TI := ⟨1, false, 8, .val Value.nilFunc, .other⟩
def ty88 : TI := ⟨1, false, 8, .val Value.nilFunc, .other⟩
def ty89 : TI := ⟨1, false, 8, .val Value.nilFunc, .other⟩
def ty90 : TI := ⟨1, false, 8, .val Value.nilFunc, .other⟩
def ty91 : TI := ⟨1, false, 8, .val Value.nilFunc, .other⟩
def ty92 : TI := ⟨2, true, 16, .agg [.lit .u64 0, .lit .u64 0], .st [(0, 26), (1, 26)]⟩
def ty93 : TI := ⟨2, true, 16, .agg [.lit .u64 0, .lit .u64 0], .st [(0, 26), (1, 26)]⟩
def ty94 : TI := ⟨30, true, 240, .row .u64 30 [0, 0, 0, 0, 0, 0, 0, 0, 0, 0, 0, 0, 0, 0, 0, 0, 0, 0, 0, 0, 0, 0, 0, 0, 0, 0, 0, 0, 0, 0], .arr 15 93⟩
def ty95 : TI := ⟨1, false, 8, .val Value.nilFunc, .other⟩
def ty96 : TI := ⟨1, false, 8, .val Value.nilFunc, .other⟩
def ty97 : TI := ⟨1, false, 8, .val Value.nilFunc, .other⟩
def ty98 : TI := ⟨1, false, 8, .val Value.nilFunc, .other⟩
def ty99 : TI := ⟨1, false, 8, .val Value.nilFunc, .other⟩
def ty100 : TI := ⟨1, false, 8, .val Value.nilFunc, .other⟩
def ty101 : TI := ⟨1, false, 8, .val Value.nilFunc, .other⟩
def ty102 : TI := ⟨1, false, 8, .lit .u64 0, .int .u64⟩
def ty103 : TI := ⟨31, true, 248, .row .i64 31 [0, 0, 0, 0, 0, 0, 0, 0, 0, 0, 0, 0, 0, 0, 0, 0, 0, 0, 0, 0, 0, 0, 0, 0, 0, 0, 0, 0, 0, 0, 0], .arr 31 3⟩
def ty104 : TI := ⟨1, false, 24, .val (.slice none 0 0), .slice 3⟩
def ty105 : TI := ⟨1, false, 8, .val Value.nilFunc, .other⟩
def ty106 : TI := ⟨1, false, 8, .val Value.nilFunc, .other⟩
def ty107 : TI := ⟨1, false, 24, .val (.slice none 0 0), .slice 29⟩
def ty108 : TI := ⟨1, false, 8, .val Value.nilFunc, .other⟩
def ty109 : TI := ⟨1, false, 8, .val Value.nilFunc, .other⟩
def ty110 : TI := ⟨56, true, 56, .row .u8 56 [0, 0, 0, 0, 0, 0, 0, 0, 0, 0, 0, 0, 0, 0, 0, 0, 0, 0, 0, 0, 0, 0, 0, 0, 0, 0, 0, 0, 0, 0, 0, 0, 0, 0, 0, 0, 0, 0, 0, 0, 0, 0, 0, 0, 0, 0, 0, 0, 0, 0, 0, 0, 0, 0, 0, 0], .arr 56 5⟩
def ty112 : TI := ⟨1, false, 8, .val Value.nilFunc, .other⟩
def ty113 : TI := ⟨1, false, 8, .val Value.nilFunc, .other⟩
def ty114 : TI := ⟨1, false, 8, .val Value.nilFunc, .other⟩
def ty115 : TI := ⟨1, false, 8, .val Value.nilFunc, .other⟩
def ty116 : TI := ⟨1, false, 8, .val Value.nilFunc, .other⟩
def ty117 : TI := ⟨1, false, 8, .val Value.nilFunc, .other⟩
def ty118 : TI := ⟨1, false, 8, .val Value.nilFunc, .other⟩
def ty119 : TI := ⟨1, false, 8, .val Value.nilFunc, .other⟩
def ty120 : TI := ⟨4, true, 40, .agg [.val (.pointer none), .val (.pointer none), .val (.pointer none), .val (.string ⟨#[]⟩)], .st [(0, 17), (1, 17), (2, 17), (3, 9)]⟩
def ty121 : TI := ⟨4, true, 40, .agg [.val (.pointer none), .val (.pointer none), .val (.pointer none), .val (.string ⟨#[]⟩)], .st [(0, 17), (1, 17), (2, 17), (3, 9)]⟩
def ty125 : TI := ⟨1, false, 8, .val Value.nilFunc, .other⟩
def ty126 : TI := ⟨1, false, 4, .lit .u32 0, .int .u32⟩
def ty127 : TI := ⟨1, false, 1, .lit .u8 0, .int .u8⟩
def ty128 : TI := ⟨1, false, 1, .lit .u8 0, .int .u8⟩
def ty129 : TI := ⟨1, false, 8, .val Value.nilFunc, .other⟩
def ty130 : TI := ⟨1, false, 8, .val (.pointer none), .ptr 5⟩
def ty131 : TI := ⟨1, false, 4, .lit .i32 0, .int .i32⟩
def ty132 : TI := ⟨1, false, 4, .lit .i32 0, .int .i32⟩
def ty133 : TI := ⟨11, true, 48, .agg [.lit .u64 0, .lit .u64 0, .lit .u32 0, .lit .u8 0, .lit .u8 0, .lit .u8 0, .lit .u8 0, .val Value.nilFunc, .val (.pointer none), .lit .i32 0, .lit .i32 0], .st [(0, 12), (1, 12), (2, 126), (3, 127), (4, 5), (5, 5), (6, 128), (7, 129), (8, 130), (9, 131), (10, 132)]⟩
def ty134 : TI := ⟨11, true, 48, .agg [.lit .u64 0, .lit .u64 0, .lit .u32 0, .lit .u8 0, .lit .u8 0, .lit .u8 0, .lit .u8 0, .val Value.nilFunc, .val (.pointer none), .lit .i32 0, .lit .i32 0], .st [(0, 12), (1, 12), (2, 126), (3, 127), (4, 5), (5, 5), (6, 128), (7, 129), (8, 130), (9, 131), (10, 132)]⟩
def T (t : TypeId) : Option TI :=
 match Nat.blt t 66 with
 | true => (match Nat.blt t 31 with
  | true => (match Nat.blt t 16 with
   | true => (match Nat.blt t 8 with
    | true => (match Nat.blt t 4 with
     | true => (match Nat.blt t 2 with
      | true => (match Nat.beq t 1 with | true => some ty1 | false => none)
      | false => (match Nat.blt t 3 with
       | true => (match Nat.beq t 2 with | true => some ty2 | false => none)
       | false => (match Nat.beq t 3 with | true => some ty3 | false => none)))
     | false => (match Nat.blt t 6 with
      | true => (match Nat.blt t 5 with
       | true => (match Nat.beq t 4 with | true => some ty4 | false => none)
       | false => (match Nat.beq t 5 with | true => some ty5 | false => none))
      | false => (match Nat.blt t 7 with
       | true => (match Nat.beq t 6 with | true => some ty6 | false => none)
       | false => (match Nat.beq t 7 with | true => some ty7 | false => none))))
    | false => (match Nat.blt t 12 with
     | true => (match Nat.blt t 10 with
      | true => (match Nat.blt t 9 with
       | true => (match Nat.beq t 8 with | true => some ty8 | false => none)
       | false => (match Nat.beq t 9 with | true => some ty9 | false => none))
      | false => (match Nat.blt t 11 with
       | true => (match Nat.beq t 10 with | true => some ty10 | false => none)
       | false => (match Nat.beq t 11 with | true => some ty11 | false => none)))
     | false => (match Nat.blt t 14 with
      | true => (match Nat.blt t 13 with
       | true => (match Nat.beq t 12 with | true => some ty12 | false => none)
       | false => (match Nat.beq t 13 with | true => some ty13 | false => none))
      | false => (match Nat.blt t 15 with
       | true => (match Nat.beq t 14 with | true => some ty14 | false => none)
       | false => (match Nat.beq t 15 with | true => some ty15 | false => none)))))
   | false => (match Nat.blt t 23 with
    | true => (match Nat.blt t 19 with
     | true => (match Nat.blt t 17 with
      | true => (match Nat.beq t 16 with | true => some ty16 | false => none)
      | false => (match Nat.blt t 18 with
       | true => (match Nat.beq t 17 with | true => some ty17 | false => none)
       | false => (match Nat.beq t 18 with | true => some ty18 | false => none)))
     | false => (match Nat.blt t 21 with
      | true => (match Nat.blt t 20 with
       | true => (match Nat.beq t 19 with | true => some ty19 | false => none)
       | false => (match Nat.beq t 20 with | true => some ty20 | false => none))
      | false => (match Nat.blt t 22 with
       | true => (match Nat.beq t 21 with | true => some ty21 | false => none)
       | false => (match Nat.beq t 22 with | true => some ty22 | false => none))))
    | false => (match Nat.blt t 27 with
     | true => (match Nat.blt t 25 with
      | true => (match Nat.blt t 24 with
       | true => (match Nat.beq t 23 with | true => some ty23 | false => none)
       | false => (match Nat.beq t 24 with | true => some ty24 | false => none))
      | false => (match Nat.blt t 26 with
       | true => (match Nat.beq t 25 with | true => some ty25 | false => none)
       | false => (match Nat.beq t 26 with | true => some ty26 | false => none)))
     | false => (match Nat.blt t 29 with
      | true => (match Nat.blt t 28 with
       | true => (match Nat.beq t 27 with | true => some ty27 | false => none)
       | false => (match Nat.beq t 28 with | true => some ty28 | false => none))
      | false => (match Nat.blt t 30 with
       | true => (match Nat.beq t 29 with | true => some ty29 | false => none)
       | false => (match Nat.beq t 30 with | true => some ty30 | false => none))))))
  | false => (match Nat.blt t 47 with
   | true => (match Nat.blt t 39 with
    | true => (match Nat.blt t 34 with
     | true => (match Nat.blt t 32 with
      | true => (match Nat.beq t 31 with | true => some ty31 | false => none)
      | false => (match Nat.blt t 33 with
       | true => (match Nat.beq t 32 with | true => some ty32 | false => none)
       | false => (match Nat.beq t 33 with | true => some ty33 | false => none)))
     | false => (match Nat.blt t 37 with
      | true => (match Nat.blt t 35 with
       | true => (match Nat.beq t 34 with | true => some ty34 | false => none)
       | false => (match Nat.beq t 35 with | true => some ty35 | false => none))
      | false => (match Nat.blt t 38 with
       | true => (match Nat.beq t 37 with | true => some ty37 | false => none)
       | false => (match Nat.beq t 38 with | true => some ty38 | false => none))))
    | false => (match Nat.blt t 43 with
     | true => (match Nat.blt t 41 with
      | true => (match Nat.blt t 40 with
       | true => (match Nat.beq t 39 with | true => some ty39 | false => none)
       | false => (match Nat.beq t 40 with | true => some ty40 | false => none))
      | false => (match Nat.blt t 42 with
       | true => (match Nat.beq t 41 with | true => some ty41 | false => none)
       | false => (match Nat.beq t 42 with | true => some ty42 | false => none)))
     | false => (match Nat.blt t 45 with
      | true => (match Nat.blt t 44 with
       | true => (match Nat.beq t 43 with | true => some ty43 | false => none)
       | false => (match Nat.beq t 44 with | true => some ty44 | false => none))
      | false => (match Nat.blt t 46 with
       | true => (match Nat.beq t 45 with | true => some ty45 | false => none)
       | false => (match Nat.beq t 46 with | true => some ty46 | false => none)))))
   | false => (match Nat.blt t 56 with
    | true => (match Nat.blt t 51 with
     | true => (match Nat.blt t 49 with
      | true => (match Nat.blt t 48 with
       | true => (match Nat.beq t 47 with | true => some ty47 | false => none)
       | false => (match Nat.beq t 48 with | true => some ty48 | false => none))
      | false => (match Nat.blt t 50 with
       | true => (match Nat.beq t 49 with | true => some ty49 | false => none)
       | false => (match Nat.beq t 50 with | true => some ty50 | false => none)))
     | false => (match Nat.blt t 54 with
      | true => (match Nat.blt t 52 with
       | true => (match Nat.beq t 51 with | true => some ty51 | false => none)
       | false => (match Nat.beq t 52 with | true => some ty52 | false => none))
      | false => (match Nat.blt t 55 with
       | true => (match Nat.beq t 54 with | true => some ty54 | false => none)
       | false => (match Nat.beq t 55 with | true => some ty55 | false => none))))
    | false => (match Nat.blt t 61 with
     | true => (match Nat.blt t 59 with
      | true => (match Nat.blt t 57 with
       | true => (match Nat.beq t 56 with | true => some ty56 | false => none)
       | false => (match Nat.beq t 57 with | true => some ty57 | false => none))
      | false => (match Nat.blt t 60 with
       | true => (match Nat.beq t 59 with | true => some ty59 | false => none)
       | false => (match Nat.beq t 60 with | true => some ty60 | false => none)))
     | false => (match Nat.blt t 63 with
      | true => (match Nat.blt t 62 with
       | true => (match Nat.beq t 61 with | true => some ty61 | false => none)
       | false => (match Nat.beq t 62 with | true => some ty62 | false => none))
      | false => (match Nat.blt t 64 with
       | true => (match Nat.beq t 63 with | true => some ty63 | false => none)
       | false => (match Nat.beq t 64 with | true => some ty64 | false => none)))))))
 | false => (match Nat.blt t 100 with
  | true => (match Nat.blt t 83 with
   | true => (match Nat.blt t 73 with
    | true => (match Nat.blt t 69 with
     | true => (match Nat.blt t 67 with
      | true => (match Nat.beq t 66 with | true => some ty66 | false => none)
      | false => (match Nat.blt t 68 with
       | true => (match Nat.beq t 67 with | true => some ty67 | false => none)
       | false => (match Nat.beq t 68 with | true => some ty68 | false => none)))
     | false => (match Nat.blt t 71 with
      | true => (match Nat.blt t 70 with
       | true => (match Nat.beq t 69 with | true => some ty69 | false => none)
       | false => (match Nat.beq t 70 with | true => some ty70 | false => none))
      | false => (match Nat.blt t 72 with
       | true => (match Nat.beq t 71 with | true => some ty71 | false => none)
       | false => (match Nat.beq t 72 with | true => some ty72 | false => none))))
    | false => (match Nat.blt t 78 with
     | true => (match Nat.blt t 75 with
      | true => (match Nat.blt t 74 with
       | true => (match Nat.beq t 73 with | true => some ty73 | false => none)
       | false => (match Nat.beq t 74 with | true => some ty74 | false => none))
      | false => (match Nat.blt t 76 with
       | true => (match Nat.beq t 75 with | true => some ty75 | false => none)
       | false => (match Nat.beq t 76 with | true => some ty76 | false => none)))
     | false => (match Nat.blt t 81 with
      | true => (match Nat.blt t 80 with
       | true => (match Nat.beq t 78 with | true => some ty78 | false => none)
       | false => (match Nat.beq t 80 with | true => some ty80 | false => none))
      | false => (match Nat.blt t 82 with
       | true => (match Nat.beq t 81 with | true => some ty81 | false => none)
       | false => (match Nat.beq t 82 with | true => some ty82 | false => none)))))
   | false => (match Nat.blt t 92 with
    | true => (match Nat.blt t 88 with
     | true => (match Nat.blt t 86 with
      | true => (match Nat.blt t 85 with
       | true => (match Nat.beq t 83 with | true => some ty83 | false => none)
       | false => (match Nat.beq t 85 with | true => some ty85 | false => none))
      | false => (match Nat.blt t 87 with
       | true => (match Nat.beq t 86 with | true => some ty86 | false => none)
       | false => (match Nat.beq t 87 with | true => some ty87 | false => none)))
     | false => (match Nat.blt t 90 with
      | true => (match Nat.blt t 89 with
       | true => (match Nat.beq t 88 with | true => some ty88 | false => none)
       | false => (match Nat.beq t 89 with | true => some ty89 | false => none))
      | false => (match Nat.blt t 91 with
       | true => (match Nat.beq t 90 with | true => some ty90 | false => none)
       | false => (match Nat.beq t 91 with | true => some ty91 | false => none))))
    | false => (match Nat.blt t 96 with
     | true => (match Nat.blt t 94 with
      | true => (match Nat.blt t 93 with
       | true => (match Nat.beq t 92 with | true => some ty92 | false => none)
       | false => (match Nat.beq t 93 with | true => some ty93 | false => none))
      | false => (match Nat.blt t 95 with
       | true => (match Nat.beq t 94 with | true => some ty94 | false => none)
       | false => (match Nat.beq t 95 with | true => some ty95 | false => none)))
     | false => (match Nat.blt t 98 with
      | true => (match Nat.blt t 97 with
       | true => (match Nat.beq t 96 with | true => some ty96 | false => none)
       | false => (match Nat.beq t 97 with | true => some ty97 | false => none))
      | false => (match Nat.blt t 99 with
       | true => (match Nat.beq t 98 with | true => some ty98 | false => none)
       | false => (match Nat.beq t 99 with | true => some ty99 | false => none))))))
  | false => (match Nat.blt t 116 with
   | true => (match Nat.blt t 107 with
    | true => (match Nat.blt t 103 with
     | true => (match Nat.blt t 101 with
      | true => (match Nat.beq t 100 with | true => some ty100 | false => none)
      | false => (match Nat.blt t 102 with
       | true => (match Nat.beq t 101 with | true => some ty101 | false => none)
       | false => (match Nat.beq t 102 with | true => some ty102 | false => none)))
     | false => (match Nat.blt t 105 with
      | true => (match Nat.blt t 104 with
       | true => (match Nat.beq t 103 with | true => some ty103 | false => none)
       | false => (match Nat.beq t 104 with | true => some ty104 | false => none))
      | false => (match Nat.blt t 106 with
       | true => (match Nat.beq t 105 with | true => some ty105 | false => none)
       | false => (match Nat.beq t 106 with | true => some ty106 | false => none))))
    | false => (match Nat.blt t 112 with
     | true => (match Nat.blt t 109 with
      | true => (match Nat.blt t 108 with
       | true => (match Nat.beq t 107 with | true => some ty107 | false => none)
       | false => (match Nat.beq t 108 with | true => some ty108 | false => none))
      | false => (match Nat.blt t 110 with
       | true => (match Nat.beq t 109 with | true => some ty109 | false => none)
       | false => (match Nat.beq t 110 with | true => some ty110 | false => none)))
     | false => (match Nat.blt t 114 with
      | true => (match Nat.blt t 113 with
       | true => (match Nat.beq t 112 with | true => some ty112 | false => none)
       | false => (match Nat.beq t 113 with | true => some ty113 | false => none))
      | false => (match Nat.blt t 115 with
       | true => (match Nat.beq t 114 with | true => some ty114 | false => none)
       | false => (match Nat.beq t 115 with | true => some ty115 | false => none)))))
   | false => (match Nat.blt t 127 with
    | true => (match Nat.blt t 120 with
     | true => (match Nat.blt t 118 with
      | true => (match Nat.blt t 117 with
       | true => (match Nat.beq t 116 with | true => some ty116 | false => none)
       | false => (match Nat.beq t 117 with | true => some ty117 | false => none))
      | false => (match Nat.blt t 119 with
       | true => (match Nat.beq t 118 with | true => some ty118 | false => none)
       | false => (match Nat.beq t 119 with | true => some ty119 | false => none)))
     | false => (match Nat.blt t 125 with
      | true => (match Nat.blt t 121 with
       | true => (match Nat.beq t 120 with | true => some ty120 | false => none)
       | false => (match Nat.beq t 121 with | true => some ty121 | false => none))
      | false => (match Nat.blt t 126 with
       | true => (match Nat.beq t 125 with | true => some ty125 | false => none)
       | false => (match Nat.beq t 126 with | true => some ty126 | false => none))))
    | false => (match Nat.blt t 131 with
     | true => (match Nat.blt t 129 with
      | true => (match Nat.blt t 128 with
       | true => (match Nat.beq t 127 with | true => some ty127 | false => none)
       | false => (match Nat.beq t 128 with | true => some ty128 | false => none))
      | false => (match Nat.blt t 130 with
       | true => (match Nat.beq t 129 with | true => some ty129 | false => none)
       | false => (match Nat.beq t 130 with | true => some ty130 | false => none)))
     | false => (match Nat.blt t 133 with
      | true => (match Nat.blt t 132 with
       | true => (match Nat.beq t 131 with | true => some ty131 | false => none)
       | false => (match Nat.beq t 132 with | true => some ty132 | false => none))
      | false => (match Nat.blt t 134 with
       | true => (match Nat.beq t 133 with | true => some ty133 | false => none)
       | false => (match Nat.beq t 134 with | true => some ty134 | false => none)))))))
theorem tyOk1 : TyOk Go.Proofs.Try.prog 1 ty1 := tyOk_of Try.type1 Try.underlying1 (by rfl) (by rfl) (by rfl) (by rfl) (by rfl) (by rfl) (by rfl) (by rfl)
theorem tyOk2 : TyOk Go.Proofs.Try.prog 2 ty2 := tyOk_of Try.type2 Try.underlying2 (by rfl) (by rfl) (by rfl) (by rfl) (by rfl) (by rfl) (by rfl) (by rfl)
theorem tyOk3 : TyOk Go.Proofs.Try.prog 3 ty3 := tyOk_of Try.type3 Try.underlying3 (by rfl) (by rfl) (by rfl) (by rfl) (by rfl) (by rfl) (by rfl) (by rfl)
theorem tyOk4 : TyOk Go.Proofs.Try.prog 4 ty4 := tyOk_of Try.type4 Try.underlying4 (by rfl) (by rfl) (by rfl) (by rfl) (by rfl) (by rfl) (by rfl) (by rfl)
theorem tyOk5 : TyOk Go.Proofs.Try.prog 5 ty5 := tyOk_of Try.type5 Try.underlying5 (by rfl) (by rfl) (by rfl) (by rfl) (by rfl) (by rfl) (by rfl) (by rfl)
theorem tyOk6 : TyOk Go.Proofs.Try.prog 6 ty6 := tyOk_of Try.type6 Try.underlying6 (by rfl) (by rfl) (by rfl) (by rfl) (by rfl) (by rfl) (by rfl) (by rfl)
theorem tyOk7 : TyOk Go.Proofs.Try.prog 7 ty7 := tyOk_of Try.type7 Try.underlying7 (by rfl) (by rfl) (by rfl) (by rfl) (by rfl) (by rfl) (by rfl) (by rfl)
theorem tyOk8 : TyOk Go.Proofs.Try.prog 8 ty8 := tyOk_of Try.type8 Try.underlying8 (by rfl) (by rfl) (by rfl) (by rfl) (by rfl) (by rfl) (by rfl) (by rfl)
theorem tyOk9 : TyOk Go.Proofs.Try.prog 9 ty9 := tyOk_of Try.type9 Try.underlying9 (by rfl) (by rfl) (by rfl) (by rfl) (by rfl) (by rfl) (by rfl) (by rfl)
theorem tyOk10 : TyOk Go.Proofs.Try.prog 10 ty10 := tyOk_of Try.type10 Try.underlying10 (by rfl) (by rfl) (by rfl) (by rfl) (by rfl) (by rfl) (by rfl) (by rfl)
theorem tyOk11 : TyOk Go.Proofs.Try.prog 11 ty11 := tyOk_of Try.type11 Try.underlying11 (by rfl) (by rfl) (by rfl) (by rfl) (by rfl) (by rfl) (by rfl) (by rfl)
theorem tyOk12 : TyOk Go.Proofs.Try.prog 12 ty12 := tyOk_of Try.type12 Try.underlying12 (by rfl) (by rfl) (by rfl) (by rfl) (by rfl) (by rfl) (by rfl) (by rfl)
theorem tyOk13 : TyOk Go.Proofs.Try.prog 13 ty13 := tyOk_of Try.type13 Try.underlying13 (by rfl) (by rfl) (by rfl) (by rfl) (by rfl) (by rfl) (by rfl) (by rfl)
theorem tyOk14 : TyOk Go.Proofs.Try.prog 14 ty14 := tyOk_of Try.type14 Try.underlying14 (by rfl) (by rfl) (by rfl) (by rfl) (by rfl) (by rfl) (by rfl) (by rfl)
theorem tyOk15 : TyOk Go.Proofs.Try.prog 15 ty15 := tyOk_of Try.type15 Try.underlying15 (by rfl) (by rfl) (by rfl) (by rfl) (by rfl) (by rfl) (by rfl) (by rfl)
theorem tyOk16 : TyOk Go.Proofs.Try.prog 16 ty16 := tyOk_of Try.type16 Try.underlying16 (by rfl) (by rfl) (by rfl) (by rfl) (by rfl) (by rfl) (by rfl) (by rfl)
theorem tyOk17 : TyOk Go.Proofs.Try.prog 17 ty17 := tyOk_of Try.type17 Try.underlying17 (by rfl) (by rfl) (by rfl) (by rfl) (by rfl) (by rfl) (by rfl) (by rfl)
theorem tyOk18 : TyOk Go.Proofs.Try.prog 18 ty18 := tyOk_of Try.type18 Try.underlying18 (by rfl) (by rfl) (by rfl) (by rfl) (by rfl) (by rfl) (by rfl) (by rfl)
theorem tyOk19 : TyOk Go.Proofs.Try.prog 19 ty19 := tyOk_of Try.type19 Try.underlying19 (by rfl) (by rfl) (by rfl) (by rfl) (by rfl) (by rfl) (by rfl) (by rfl)
theorem tyOk20 : TyOk Go.Proofs.Try.prog 20 ty20 := tyOk_of Try.type20 Try.underlying20 (by rfl) (by rfl) (by rfl) (by rfl) (by rfl) (by rfl) (by rfl) (by rfl)
theorem tyOk21 : TyOk Go.Proofs.Try.prog 21 ty21 := tyOk_of Try.type21 Try.underlying21 (by rfl) (by rfl) (by rfl) (by rfl) (by rfl) (by rfl) (by rfl) (by rfl)
theorem tyOk22 : TyOk Go.Proofs.Try.prog 22 ty22 := tyOk_of Try.type22 Try.underlying22 (by rfl) (by rfl) (by rfl) (by rfl) (by rfl) (by rfl) (by rfl) (by rfl)
theorem tyOk23 : TyOk Go.Proofs.Try.prog 23 ty23 := tyOk_of Try.type23 Try.underlying23 (by rfl) (by rfl) (by rfl) (by rfl) (by rfl) (by rfl) (by rfl) (by rfl)
theorem tyOk24 : TyOk Go.Proofs.Try.prog 24 ty24 := tyOk_of Try.type24 Try.underlying24 (by rfl) (by rfl) (by rfl) (by rfl) (by rfl) (by rfl) (by rfl) (by rfl)
theorem tyOk25 : TyOk Go.Proofs.Try.prog 25 ty25 := tyOk_of Try.type25 Try.underlying25 (by rfl) (by rfl) (by rfl) (by rfl) (by rfl) (by rfl) (by rfl) (by rfl)
theorem tyOk26 : TyOk Go.Proofs.Try.prog 26 ty26 := tyOk_of Try.type26 Try.underlying26 (by rfl) (by rfl) (by rfl) (by rfl) (by rfl) (by rfl) (by rfl) (by rfl)
theorem tyOk27 : TyOk Go.Proofs.Try.prog 27 ty27 := tyOk_of Try.type27 Try.underlying27 (by rfl) (by rfl) (by rfl) (by rfl) (by rfl) (by rfl) (by rfl) (by rfl)
theorem tyOk28 : TyOk Go.Proofs.Try.prog 28 ty28 := tyOk_of Try.type28 Try.underlying28 (by rfl) (by rfl) (by rfl) (by rfl) (by rfl) (by rfl) (by rfl) (by rfl)
theorem tyOk29 : TyOk Go.Proofs.Try.prog 29 ty29 := tyOk_of Try.type29 Try.underlying29 (by rfl) (by rfl) (by rfl) (by rfl) (by rfl) (by rfl) (by rfl) (by rfl)
theorem tyOk30 : TyOk Go.Proofs.Try.prog 30 ty30 := tyOk_of Try.type30 Try.underlying30 (by rfl) (by rfl) (by rfl) (by rfl) (by rfl) (by rfl) (by rfl) (by rfl)
theorem tyOk31 : TyOk Go.Proofs.Try.prog 31 ty31 := tyOk_of Try.type31 Try.underlying31 (by rfl) (by rfl) (by rfl) (by rfl) (by rfl) (by rfl) (by rfl) (by rfl)
theorem tyOk32 : TyOk Go.Proofs.Try.prog 32 ty32 := tyOk_of Try.type32 Try.underlying32 (by rfl) (by rfl) (by rfl) (by rfl) (by rfl) (by rfl) (by rfl) (by rfl)
theorem tyOk33 : TyOk Go.Proofs.Try.prog 33 ty33 := tyOk_of Try.type33 Try.underlying33 (by rfl) (by rfl) (by rfl) (by rfl) (by rfl) (by rfl) (by rfl) (by rfl)
theorem tyOk34 : TyOk Go.Proofs.Try.prog 34 ty34 := tyOk_of Try.type34 Try.underlying34 (by rfl) (by rfl) (by rfl) (by rfl) (by rfl) (by rfl) (by rfl) (by rfl)
theorem tyOk35 : TyOk Go.Proofs.Try.prog 35 ty35 := tyOk_of Try.type35 Try.underlying35 (by rfl) (by rfl) (by rfl) (by rfl) (by rfl) (by rfl) (by rfl) (by rfl)
theorem tyOk37 : TyOk Go.Proofs.Try.prog 37 ty37 := tyOk_of Try.type37 Try.underlying37 (by rfl) (by rfl) (by rfl) (by rfl) (by rfl) (by rfl) (by rfl) (by rfl)
theorem tyOk38 : TyOk Go.Proofs.Try.prog 38 ty38 := tyOk_of Try.type38 Try.underlying38 (by rfl) (by rfl) (by rfl) (by rfl) (by rfl) (by rfl) (by rfl) (by rfl)
theorem tyOk39 : TyOk Go.Proofs.Try.prog 39 ty39 := tyOk_of Try.type39 Try.underlying39 (by rfl) (by rfl) (by rfl) (by rfl) (by rfl) (by rfl) (by rfl) (by rfl)
theorem tyOk40 : TyOk Go.Proofs.Try.prog 40 ty40 := tyOk_of Try.type40 Try.underlying40 (by rfl) (by rfl) (by rfl) (by rfl) (by rfl) (by rfl) (by rfl) (by rfl)
theorem tyOk41 : TyOk Go.Proofs.Try.prog 41 ty41 := tyOk_of Try.type41 Try.underlying41 (by rfl) (by rfl) (by rfl) (by rfl) (by rfl) (by rfl) (by rfl) (by rfl)
theorem tyOk42 : TyOk Go.Proofs.Try.prog 42 ty42 := tyOk_of Try.type42 Try.underlying42 (by rfl) (by rfl) (by rfl) (by rfl) (by rfl) (by rfl) (by rfl) (by rfl)
theorem tyOk43 : TyOk Go.Proofs.Try.prog 43 ty43 := tyOk_of Try.type43 Try.underlying43 (by rfl) (by rfl) (by rfl) (by rfl) (by rfl) (by rfl) (by rfl) (by rfl)
theorem tyOk44 : TyOk Go.Proofs.Try.prog 44 ty44 := tyOk_of Try.type44 Try.underlying44 (by rfl) (by rfl) (by rfl) (by rfl) (by rfl) (by rfl) (by rfl) (by rfl)
theorem tyOk45 : TyOk Go.Proofs.Try.prog 45 ty45 := tyOk_of Try.type45 Try.underlying45 (by rfl) (by rfl) (by rfl) (by rfl) (by rfl) (by rfl) (by rfl) (by rfl)
theorem tyOk46 : TyOk Go.Proofs.Try.prog 46 ty46 := tyOk_of Try.type46 Try.underlying46 (by rfl) (by rfl) (by rfl) (by rfl) (by rfl) (by rfl) (by rfl) (by rfl)
theorem tyOk47 : TyOk Go.Proofs.Try.prog 47 ty47 := tyOk_of Try.type47 Try.underlying47 (by rfl) (by rfl) (by rfl) (by rfl) (by rfl) (by rfl) (by rfl) (by rfl)
theorem tyOk48 : TyOk Go.Proofs.Try.prog 48 ty48 := tyOk_of Try.type48 Try.underlying48 (by rfl) (by rfl) (by rfl) (by rfl) (by rfl) (by rfl) (by rfl) (by rfl)
theorem tyOk49 : TyOk Go.Proofs.Try.prog 49 ty49 := tyOk_of Try.type49 Try.underlying49 (by rfl) (by rfl) (by rfl) (by rfl) (by rfl) (by rfl) (by rfl) (by rfl)
theorem tyOk50 : TyOk Go.Proofs.Try.prog 50 ty50 := tyOk_of Try.type50 Try.underlying50 (by rfl) (by rfl) (by rfl) (by rfl) (by rfl) (by rfl) (by rfl) (by rfl)
theorem tyOk51 : TyOk Go.Proofs.Try.prog 51 ty51 := tyOk_of Try.type51 Try.underlying51 (by rfl) (by rfl) (by rfl) (by rfl) (by rfl) (by rfl) (by rfl) (by rfl)
theorem tyOk52 : TyOk Go.Proofs.Try.prog 52 ty52 := tyOk_of Try.type52 Try.underlying52 (by rfl) (by rfl) (by rfl) (by rfl) (by rfl) (by rfl) (by rfl) (by rfl)
theorem tyOk54 : TyOk Go.Proofs.Try.prog 54 ty54 := tyOk_of Try.type54 Try.underlying54 (by rfl) (by rfl) (by rfl) (by rfl) (by rfl) (by rfl) (by rfl) (by rfl)
theorem tyOk55 : TyOk Go.Proofs.Try.prog 55 ty55 := tyOk_of Try.type55 Try.underlying55 (by rfl) (by rfl) (by rfl) (by rfl) (by rfl) (by rfl) (by rfl) (by rfl)
theorem tyOk56 : TyOk Go.Proofs.Try.prog 56 ty56 := tyOk_of Try.type56 Try.underlying56 (by rfl) (by rfl) (by rfl) (by rfl) (by rfl) (by rfl) (by rfl) (by rfl)
theorem tyOk57 : TyOk Go.Proofs.Try.prog 57 ty57 := tyOk_of Try.type57 Try.underlying57 (by rfl) (by rfl) (by rfl) (by rfl) (by rfl) (by rfl) (by rfl) (by rfl)
theorem tyOk59 : TyOk Go.Proofs.Try.prog 59 ty59 := tyOk_of Try.type59 Try.underlying59 (by rfl) (by rfl) (by rfl) (by rfl) (by rfl) (by rfl) (by rfl) (by rfl)
theorem tyOk60 : TyOk Go.Proofs.Try.prog 60 ty60 := tyOk_of Try.type60 Try.underlying60 (by rfl) (by rfl) (by rfl) (by rfl) (by rfl) (by rfl) (by rfl) (by rfl)
theorem tyOk61 : TyOk Go.Proofs.Try.prog 61 ty61 := tyOk_of Try.type61 Try.underlying61 (by rfl) (by rfl) (by rfl) (by rfl) (by rfl) (by rfl) (by rfl) (by rfl)
theorem tyOk62 : TyOk Go.Proofs.Try.prog 62 ty62 := tyOk_of Try.type62 Try.underlying62 (by rfl) (by rfl) (by rfl) (by rfl) (by rfl) (by rfl) (by rfl) (by rfl)
theorem tyOk63 : TyOk Go.Proofs.Try.prog 63 ty63 := tyOk_of Try.type63 Try.underlying63 (by rfl) (by rfl) (by rfl) (by rfl) (by rfl) (by rfl) (by rfl) (by rfl)
theorem tyOk64 : TyOk Go.Proofs.Try.prog 64 ty64 := tyOk_of Try.type64 Try.underlying64 (by rfl) (by rfl) (by rfl) (by rfl) (by rfl) (by rfl) (by rfl) (by rfl)
theorem tyOk66 : TyOk Go.Proofs.Try.prog 66 ty66 := tyOk_of Try.type66 Try.underlying66 (by rfl) (by rfl) (by rfl) (by rfl) (by rfl) (by rfl) (by rfl) (by rfl)
theorem tyOk67 : TyOk Go.Proofs.Try.prog 67 ty67 := tyOk_of Try.type67 Try.underlying67 (by rfl) (by rfl) (by rfl) (by rfl) (by rfl) (by rfl) (by rfl) (by rfl)
theorem tyOk68 : TyOk Go.Proofs.Try.prog 68 ty68 := tyOk_of Try.type68 Try.underlying68 (by rfl) (by rfl) (by rfl) (by rfl) (by rfl) (by rfl) (by rfl) (by rfl)
theorem tyOk69 : TyOk Go.Proofs.Try.prog 69 ty69 := tyOk_of Try.type69 Try.underlying69 (by rfl) (by rfl) (by rfl) (by rfl) (by rfl) (by rfl) (by rfl) (by rfl)
theorem tyOk70 : TyOk Go.Proofs.Try.prog 70 ty70 := tyOk_of Try.type70 Try.underlying70 (by rfl) (by rfl) (by rfl) (by rfl) (by rfl) (by rfl) (by rfl) (by rfl)
theorem tyOk71 : TyOk Go.Proofs.Try.prog 71 ty71 := tyOk_of Try.type71 Try.underlying71 (by rfl) (by rfl) (by rfl) (by rfl) (by rfl) (by rfl) (by rfl) (by rfl)
theorem tyOk72 : TyOk Go.Proofs.Try.prog 72 ty72 := tyOk_of Try.type72 Try.underlying72 (by rfl) (by rfl) (by rfl) (by rfl) (by rfl) (by rfl) (by rfl) (by rfl)
theorem tyOk73 : TyOk Go.Proofs.Try.prog 73 ty73 := tyOk_of Try.type73 Try.underlying73 (by rfl) (by rfl) (by rfl) (by rfl) (by rfl) (by rfl) (by rfl) (by rfl)
theorem tyOk74 : TyOk Go.Proofs.Try.prog 74 ty74 := tyOk_of Try.type74 Try.underlying74 (by rfl) (by rfl) (by rfl) (by rfl) (by rfl) (by rfl) (by rfl) (by rfl)
theorem tyOk75 : TyOk Go.Proofs.Try.prog 75 ty75 := tyOk_of Try.type75 Try.underlying75 (by rfl) (by rfl) (by rfl) (by rfl) (by rfl) (by rfl) (by rfl) (by rfl)
theorem tyOk76 : TyOk Go.Proofs.Try.prog 76 ty76 := tyOk_of Try.type76 Try.underlying76 (by rfl) (by rfl) (by rfl) (by rfl) (by rfl) (by rfl) (by rfl) (by rfl)
theorem tyOk78 : TyOk Go.Proofs.Try.prog 78 ty78 := tyOk_of Try.type78 Try.underlying78 (by rfl) (by rfl) (by rfl) (by rfl) (by rfl) (by rfl) (by rfl) (by rfl)
theorem tyOk80 : TyOk Go.Proofs.Try.prog 80 ty80 := tyOk_of Try.type80 Try.underlying80 (by rfl) (by rfl) (by rfl) (by rfl) (by rfl) (by rfl) (by rfl) (by rfl)
theorem tyOk81 : TyOk Go.Proofs.Try.prog 81 ty81 := tyOk_of Try.type81 Try.underlying81 (by rfl) (by rfl) (by rfl) (by rfl) (by rfl) (by rfl) (by rfl) (by rfl)
theorem tyOk82 : TyOk Go.Proofs.Try.prog 82 ty82 := tyOk_of Try.type82 Try.underlying82 (by rfl) (by rfl) (by rfl) (by rfl) (by rfl) (by rfl) (by rfl) (by rfl)
theorem tyOk83 : TyOk Go.Proofs.Try.prog 83 ty83 := tyOk_of Try.type83 Try.underlying83 (by rfl) (by rfl) (by rfl) (by rfl) (by rfl) (by rfl) (by rfl) (by rfl)
theorem tyOk85 : TyOk Go.Proofs.Try.prog 85 ty85 := tyOk_of Try.type85 Try.underlying85 (by rfl) (by rfl) (by rfl) (by rfl) (by rfl) (by rfl) (by rfl) (by rfl)
theorem tyOk86 : TyOk Go.Proofs.Try.prog 86 ty86 := tyOk_of Try.type86 Try.underlying86 (by rfl) (by rfl) (by rfl) (by rfl) (by rfl) (by rfl) (by rfl) (by rfl)
theorem tyOk87 : TyOk Go.Proofs.Try.prog 87 ty87 := tyOk_of Try.type87 Try.underlying87 (by rfl) (by rfl) (by rfl) (by rfl) (by rfl) (by rfl) (by rfl) (by rfl)
theorem tyOk88 : TyOk Go.Proofs.Try.prog 88 ty88 := tyOk_of Try.type88 Try.underlying88 (by rfl) (by rfl) (by rfl) (by rfl) (by rfl) (by rfl) (by rfl) (by rfl)
theorem tyOk89 : TyOk Go.Proofs.Try.prog 89 ty89 := tyOk_of Try.type89 Try.underlying89 (by rfl) (by rfl) (by rfl) (by rfl) (by rfl) (by rfl) (by rfl) (by rfl)
theorem tyOk90 : TyOk Go.Proofs.Try.prog 90 ty90 := tyOk_of Try.type90 Try.underlying90 (by rfl) (by rfl) (by rfl) (by rfl) (by rfl) (by rfl) (by rfl) (by rfl)
theorem tyOk91 : TyOk Go.Proofs.Try.prog 91 ty91 := tyOk_of Try.type91 Try.underlying91 (by rfl) (by rfl) (by rfl) (by rfl) (by rfl) (by rfl) (by rfl) (by rfl)
theorem tyOk92 : TyOk Go.Proofs.Try.prog 92 ty92 := tyOk_of Try.type92 Try.underlying92 (by rfl) (by rfl) (by rfl) (by rfl) (by rfl) (by rfl) (by rfl) (by rfl)
theorem tyOk93 : TyOk Go.Proofs.Try.prog 93 ty93 := tyOk_of Try.type93 Try.underlying93 (by rfl) (by rfl) (by rfl) (by rfl) (by rfl) (by rfl) (by rfl) (by rfl)
theorem tyOk94 : TyOk Go.Proofs.Try.prog 94 ty94 := tyOk_of Try.type94 Try.underlying94 (by rfl) (by rfl) (by rfl) (by rfl) (by rfl) (by rfl) (by rfl) (by rfl)
theorem tyOk95 : TyOk Go.Proofs.Try.prog 95 ty95 := tyOk_of Try.type95 Try.underlying95 (by rfl) (by rfl) (by rfl) (by rfl) (by rfl) (by rfl) (by rfl) (by rfl)
theorem tyOk96 : TyOk Go.Proofs.Try.prog 96 ty96 := tyOk_of Try.type96 Try.underlying96 (by rfl) (by rfl) (by rfl) (by rfl) (by rfl) (by rfl) (by rfl) (by rfl)
theorem tyOk97 : TyOk Go.Proofs.Try.prog 97 ty97 := tyOk_of Try.type97 Try.underlying97 (by rfl) (by rfl) (by rfl) (by rfl) (by rfl) (by rfl) (by rfl) (by rfl)
theorem tyOk98 : TyOk Go.Proofs.Try.prog 98 ty98 := tyOk_of Try.type98 Try.underlying98 (by rfl) (by rfl) (by rfl) (by rfl) (by rfl) (by rfl) (by rfl) (by rfl)
theorem tyOk99 : TyOk Go.Proofs.Try.prog 99 ty99 := tyOk_of Try.type99 Try.underlying99 (by rfl) (by rfl) (by rfl) (by rfl) (by rfl) (by rfl) (by rfl) (by rfl)
theorem tyOk100 : TyOk Go.Proofs.Try.prog 100 ty100 := tyOk_of Try.type100 Try.underlying100 (by rfl) (by rfl) (by rfl) (by rfl) (by rfl) (by rfl) (by rfl) (by rfl)
theorem tyOk101 : TyOk Go.Proofs.Try.prog 101 ty101 := tyOk_of Try.type101 Try.underlying101 (by rfl) (by rfl) (by rfl) (by rfl) (by rfl) (by rfl) (by rfl) (by rfl)
theorem tyOk102 : TyOk Go.Proofs.Try.prog 102 ty102 := tyOk_of Try.type102 Try.underlying102 (by rfl) (by rfl) (by rfl) (by rfl) (by rfl) (by rfl) (by rfl) (by rfl)
theorem tyOk103 : TyOk Go.Proofs.Try.prog 103 ty103 := tyOk_of Try.type103 Try.underlying103 (by rfl) (by rfl) (by rfl) (by rfl) (by rfl) (by rfl) (by rfl) (by rfl)
theorem tyOk104 : TyOk Go.Proofs.Try.prog 104 ty104 := tyOk_of Try.type104 Try.underlying104 (by rfl) (by rfl) (by rfl) (by rfl) (by rfl) (by rfl) (by rfl) (by rfl)
theorem tyOk105 : TyOk Go.Proofs.Try.prog 105 ty105 := tyOk_of Try.type105 Try.underlying105 (by rfl) (by rfl) (by rfl) (by rfl) (by rfl) (by rfl) (by rfl) (by rfl)
theorem tyOk106 : TyOk Go.Proofs.Try.prog 106 ty106 := tyOk_of Try.type106 Try.underlying106 (by rfl) (by rfl) (by rfl) (by rfl) (by rfl) (by rfl) (by rfl) (by rfl)
theorem tyOk107 : TyOk Go.Proofs.Try.prog 107 ty107 := tyOk_of Try.type107 Try.underlying107 (by rfl) (by rfl) (by rfl) (by rfl) (by rfl) (by rfl) (by rfl) (by rfl)
theorem tyOk108 : TyOk Go.Proofs.Try.prog 108 ty108 := tyOk_of Try.type108 Try.underlying108 (by rfl) (by rfl) (by rfl) (by rfl) (by rfl) (by rfl) (by rfl) (by rfl)
theorem tyOk109 : TyOk Go.Proofs.Try.prog 109 ty109 := tyOk_of Try.type109 Try.underlying109 (by rfl) (by rfl) (by rfl) (by rfl) (by rfl) (by rfl) (by rfl) (by rfl)
theorem tyOk110 : TyOk Go.Proofs.Try.prog 110 ty110 := tyOk_of Try.type110 Try.underlying110 (by rfl) (by rfl) (by rfl) (by rfl) (by rfl) (by rfl) (by rfl) (by rfl)
theorem tyOk112 : TyOk Go.Proofs.Try.prog 112 ty112 := tyOk_of Try.type112 Try.underlying112 (by rfl) (by rfl) (by rfl) (by rfl) (by rfl) (by rfl) (by rfl) (by rfl)
theorem tyOk113 : TyOk Go.Proofs.Try.prog 113 ty113 := tyOk_of Try.type113 Try.underlying113 (by rfl) (by rfl) (by rfl) (by rfl) (by rfl) (by rfl) (by rfl) (by rfl)
theorem tyOk114 : TyOk Go.Proofs.Try.prog 114 ty114 := tyOk_of Try.type114 Try.underlying114 (by rfl) (by rfl) (by rfl) (by rfl) (by rfl) (by rfl) (by rfl) (by rfl)
theorem tyOk115 : TyOk Go.Proofs.Try.prog 115 ty115 := tyOk_of Try.type115 Try.underlying115 (by rfl) (by rfl) (by rfl) (by rfl) (by rfl) (by rfl) (by rfl) (by rfl)
theorem tyOk116 : TyOk Go.Proofs.Try.prog 116 ty116 := tyOk_of Try.type116 Try.underlying116 (by rfl) (by rfl) (by rfl) (by rfl) (by rfl) (by rfl) (by rfl) (by rfl)
theorem tyOk117 : TyOk Go.Proofs.Try.prog 117 ty117 := tyOk_of Try.type117 Try.underlying117 (by rfl) (by rfl) (by rfl) (by rfl) (by rfl) (by rfl) (by rfl) (by rfl)
theorem tyOk118 : TyOk Go.Proofs.Try.prog 118 ty118 := tyOk_of Try.type118 Try.underlying118 (by rfl) (by rfl) (by rfl) (by rfl) (by rfl) (by rfl) (by rfl) (by rfl)
theorem tyOk119 : TyOk Go.Proofs.Try.prog 119 ty119 := tyOk_of Try.type119 Try.underlying119 (by rfl) (by rfl) (by rfl) (by rfl) (by rfl) (by rfl) (by rfl) (by rfl)
theorem tyOk120 : TyOk Go.Proofs.Try.prog 120 ty120 := tyOk_of Try.type120 Try.underlying120 (by rfl) (by rfl) (by rfl) (by rfl) (by rfl) (by rfl) (by rfl) (by rfl)
theorem tyOk121 : TyOk Go.Proofs.Try.prog 121 ty121 := tyOk_of Try.type121 Try.underlying121 (by rfl) (by rfl) (by rfl) (by rfl) (by rfl) (by rfl) (by rfl) (by rfl)
theorem tyOk125 : TyOk Go.Proofs.Try.prog 125 ty125 := tyOk_of Try.type125 Try.underlying125 (by rfl) (by rfl) (by rfl) (by rfl) (by rfl) (by rfl) (by rfl) (by rfl)
theorem tyOk126 : TyOk Go.Proofs.Try.prog 126 ty126 := tyOk_of Try.type126 Try.underlying126 (by rfl) (by rfl) (by rfl) (by rfl) (by rfl) (by rfl) (by rfl) (by rfl)
theorem tyOk127 : TyOk Go.Proofs.Try.prog 127 ty127 := tyOk_of Try.type127 Try.underlying127 (by rfl) (by rfl) (by rfl) (by rfl) (by rfl) (by rfl) (by rfl) (by rfl)
theorem tyOk128 : TyOk Go.Proofs.Try.prog 128 ty128 := tyOk_of Try.type128 Try.underlying128 (by rfl) (by rfl) (by rfl) (by rfl) (by rfl) (by rfl) (by rfl) (by rfl)
theorem tyOk129 : TyOk Go.Proofs.Try.prog 129 ty129 := tyOk_of Try.type129 Try.underlying129 (by rfl) (by rfl) (by rfl) (by rfl) (by rfl) (by rfl) (by rfl) (by rfl)
theorem tyOk130 : TyOk Go.Proofs.Try.prog 130 ty130 := tyOk_of Try.type130 Try.underlying130 (by rfl) (by rfl) (by rfl) (by rfl) (by rfl) (by rfl) (by rfl) (by rfl)
theorem tyOk131 : TyOk Go.Proofs.Try.prog 131 ty131 := tyOk_of Try.type131 Try.underlying131 (by rfl) (by rfl) (by rfl) (by rfl) (by rfl) (by rfl) (by rfl) (by rfl)
theorem tyOk132 : TyOk Go.Proofs.Try.prog 132 ty132 := tyOk_of Try.type132 Try.underlying132 (by rfl) (by rfl) (by rfl) (by rfl) (by rfl) (by rfl) (by rfl) (by rfl)
theorem tyOk133 : TyOk Go.Proofs.Try.prog 133 ty133 := tyOk_of Try.type133 Try.underlying133 (by rfl) (by rfl) (by rfl) (by rfl) (by rfl) (by rfl) (by rfl) (by rfl)
theorem tyOk134 : TyOk Go.Proofs.Try.prog 134 ty134 := tyOk_of Try.type134 Try.underlying134 (by rfl) (by rfl) (by rfl) (by rfl) (by rfl) (by rfl) (by rfl) (by rfl)
theorem T_ok : ∀ t ti, T t = some ti → TyOk Go.Proofs.Try.prog t ti := by
  intro t ti h
  unfold T at h
  repeat' split at h
  all_goals first | (cases h; done) | skip
  · rename_i hb; cases h; rw [Nat.eq_of_beq_eq_true hb]; exact tyOk1
  · rename_i hb; cases h; rw [Nat.eq_of_beq_eq_true hb]; exact tyOk2
  · rename_i hb; cases h; rw [Nat.eq_of_beq_eq_true hb]; exact tyOk3
  · rename_i hb; cases h; rw [Nat.eq_of_beq_eq_true hb]; exact tyOk4
  · rename_i hb; cases h; rw [Nat.eq_of_beq_eq_true hb]; exact tyOk5
  · rename_i hb; cases h; rw [Nat.eq_of_beq_eq_true hb]; exact tyOk6
  · rename_i hb; cases h; rw [Nat.eq_of_beq_eq_true hb]; exact tyOk7
  · rename_i hb; cases h; rw [Nat.eq_of_beq_eq_true hb]; exact tyOk8
  · rename_i hb; cases h; rw [Nat.eq_of_beq_eq_true hb]; exact tyOk9
  · rename_i hb; cases h; rw [Nat.eq_of_beq_eq_true hb]; exact tyOk10
  · rename_i hb; cases h; rw [Nat.eq_of_beq_eq_true hb]; exact tyOk11
  · rename_i hb; cases h; rw [Nat.eq_of_beq_eq_true hb]; exact tyOk12
  · rename_i hb; cases h; rw [Nat.eq_of_beq_eq_true hb]; exact tyOk13
  · rename_i hb; cases h; rw [Nat.eq_of_beq_eq_true hb]; exact tyOk14
  · rename_i hb; cases h; rw [Nat.eq_of_beq_eq_true hb]; exact tyOk15
  · rename_i hb; cases h; rw [Nat.eq_of_beq_eq_true hb]; exact tyOk16
  · rename_i hb; cases h; rw [Nat.eq_of_beq_eq_true hb]; exact tyOk17
  · rename_i hb; cases h; rw [Nat.eq_of_beq_eq_true hb]; exact tyOk18
  · rename_i hb; cases h; rw [Nat.eq_of_beq_eq_true hb]; exact tyOk19
  · rename_i hb; cases h; rw [Nat.eq_of_beq_eq_true hb]; exact tyOk20
  · rename_i hb; cases h; rw [Nat.eq_of_beq_eq_true hb]; exact tyOk21
  · rename_i hb; cases h; rw [Nat.eq_of_beq_eq_true hb]; exact tyOk22
  · rename_i hb; cases h; rw [Nat.eq_of_beq_eq_true hb]; exact tyOk23
  · rename_i hb; cases h; rw [Nat.eq_of_beq_eq_true hb]; exact tyOk24
  · rename_i hb; cases h; rw [Nat.eq_of_beq_eq_true hb]; exact tyOk25
  · rename_i hb; cases h; rw [Nat.eq_of_beq_eq_true hb]; exact tyOk26
  · rename_i hb; cases h; rw [Nat.eq_of_beq_eq_true hb]; exact tyOk27
  · rename_i hb; cases h; rw [Nat.eq_of_beq_eq_true hb]; exact tyOk28
  · rename_i hb; cases h; rw [Nat.eq_of_beq_eq_true hb]; exact tyOk29
  · rename_i hb; cases h; rw [Nat.eq_of_beq_eq_true hb]; exact tyOk30
  · rename_i hb; cases h; rw [Nat.eq_of_beq_eq_true hb]; exact tyOk31
  · rename_i hb; cases h; rw [Nat.eq_of_beq_eq_true hb]; exact tyOk32
  · rename_i hb; cases h; rw [Nat.eq_of_beq_eq_true hb]; exact tyOk33
  · rename_i hb; cases h; rw [Nat.eq_of_beq_eq_true hb]; exact tyOk34
  · rename_i hb; cases h; rw [Nat.eq_of_beq_eq_true hb]; exact tyOk35
  · rename_i hb; cases h; rw [Nat.eq_of_beq_eq_true hb]; exact tyOk37
  · rename_i hb; cases h; rw [Nat.eq_of_beq_eq_true hb]; exact tyOk38
  · rename_i hb; cases h; rw [Nat.eq_of_beq_eq_true hb]; exact tyOk39
  · rename_i hb; cases h; rw [Nat.eq_of_beq_eq_true hb]; exact tyOk40
  · rename_i hb; cases h; rw [Nat.eq_of_beq_eq_true hb]; exact tyOk41
  · rename_i hb; cases h; rw [Nat.eq_of_beq_eq_true hb]; exact tyOk42
  · rename_i hb; cases h; rw [Nat.eq_of_beq_eq_true hb]; exact tyOk43
  · rename_i hb; cases h; rw [Nat.eq_of_beq_eq_true hb]; exact tyOk44
  · rename_i hb; cases h; rw [Nat.eq_of_beq_eq_true hb]; exact tyOk45
  · rename_i hb; cases h; rw [Nat.eq_of_beq_eq_true hb]; exact tyOk46
  · rename_i hb; cases h; rw [Nat.eq_of_beq_eq_true hb]; exact tyOk47
  · rename_i hb; cases h; rw [Nat.eq_of_beq_eq_true hb]; exact tyOk48
  · rename_i hb; cases h; rw [Nat.eq_of_beq_eq_true hb]; exact tyOk49
  · rename_i hb; cases h; rw [Nat.eq_of_beq_eq_true hb]; exact tyOk50
  · rename_i hb; cases h; rw [Nat.eq_of_beq_eq_true hb]; exact tyOk51
  · rename_i hb; cases h; rw [Nat.eq_of_beq_eq_true hb]; exact tyOk52
  · rename_i hb; cases h; rw [Nat.eq_of_beq_eq_true hb]; exact tyOk54
  · rename_i hb; cases h; rw [Nat.eq_of_beq_eq_true hb]; exact tyOk55
  · rename_i hb; cases h; rw [Nat.eq_of_beq_eq_true hb]; exact tyOk56
  · rename_i hb; cases h; rw [Nat.eq_of_beq_eq_true hb]; exact tyOk57
  · rename_i hb; cases h; rw [Nat.eq_of_beq_eq_true hb]; exact tyOk59
  · rename_i hb; cases h; rw [Nat.eq_of_beq_eq_true hb]; exact tyOk60
  · rename_i hb; cases h; rw [Nat.eq_of_beq_eq_true hb]; exact tyOk61
  · rename_i hb; cases h; rw [Nat.eq_of_beq_eq_true hb]; exact tyOk62
  · rename_i hb; cases h; rw [Nat.eq_of_beq_eq_true hb]; exact tyOk63
  · rename_i hb; cases h; rw [Nat.eq_of_beq_eq_true hb]; exact tyOk64
  · rename_i hb; cases h; rw [Nat.eq_of_beq_eq_true hb]; exact tyOk66
  · rename_i hb; cases h; rw [Nat.eq_of_beq_eq_true hb]; exact tyOk67
  · rename_i hb; cases h; rw [Nat.eq_of_beq_eq_true hb]; exact tyOk68
  · rename_i hb; cases h; rw [Nat.eq_of_beq_eq_true hb]; exact tyOk69
  · rename_i hb; cases h; rw [Nat.eq_of_beq_eq_true hb]; exact tyOk70
  · rename_i hb; cases h; rw [Nat.eq_of_beq_eq_true hb]; exact tyOk71
  · rename_i hb; cases h; rw [Nat.eq_of_beq_eq_true hb]; exact tyOk72
  · rename_i hb; cases h; rw [Nat.eq_of_beq_eq_true hb]; exact tyOk73
  · rename_i hb; cases h; rw [Nat.eq_of_beq_eq_true hb]; exact tyOk74
  · rename_i hb; cases h; rw [Nat.eq_of_beq_eq_true hb]; exact tyOk75
  · rename_i hb; cases h; rw [Nat.eq_of_beq_eq_true hb]; exact tyOk76
  · rename_i hb; cases h; rw [Nat.eq_of_beq_eq_true hb]; exact tyOk78
  · rename_i hb; cases h; rw [Nat.eq_of_beq_eq_true hb]; exact tyOk80
  · rename_i hb; cases h; rw [Nat.eq_of_beq_eq_true hb]; exact tyOk81
  · rename_i hb; cases h; rw [Nat.eq_of_beq_eq_true hb]; exact tyOk82
  · rename_i hb; cases h; rw [Nat.eq_of_beq_eq_true hb]; exact tyOk83
  · rename_i hb; cases h; rw [Nat.eq_of_beq_eq_true hb]; exact tyOk85
  · rename_i hb; cases h; rw [Nat.eq_of_beq_eq_true hb]; exact tyOk86
  · rename_i hb; cases h; rw [Nat.eq_of_beq_eq_true hb]; exact tyOk87
  · rename_i hb; cases h; rw [Nat.eq_of_beq_eq_true hb]; exact tyOk88
  · rename_i hb; cases h; rw [Nat.eq_of_beq_eq_true hb]; exact tyOk89
  · rename_i hb; cases h; rw [Nat.eq_of_beq_eq_true hb]; exact tyOk90
  · rename_i hb; cases h; rw [Nat.eq_of_beq_eq_true hb]; exact tyOk91
  · rename_i hb; cases h; rw [Nat.eq_of_beq_eq_true hb]; exact tyOk92
  · rename_i hb; cases h; rw [Nat.eq_of_beq_eq_true hb]; exact tyOk93
  · rename_i hb; cases h; rw [Nat.eq_of_beq_eq_true hb]; exact tyOk94
  · rename_i hb; cases h; rw [Nat.eq_of_beq_eq_true hb]; exact tyOk95
  · rename_i hb; cases h; rw [Nat.eq_of_beq_eq_true hb]; exact tyOk96
  · rename_i hb; cases h; rw [Nat.eq_of_beq_eq_true hb]; exact tyOk97
  · rename_i hb; cases h; rw [Nat.eq_of_beq_eq_true hb]; exact tyOk98
  · rename_i hb; cases h; rw [Nat.eq_of_beq_eq_true hb]; exact tyOk99
  · rename_i hb; cases h; rw [Nat.eq_of_beq_eq_true hb]; exact tyOk100
  · rename_i hb; cases h; rw [Nat.eq_of_beq_eq_true hb]; exact tyOk101
  · rename_i hb; cases h; rw [Nat.eq_of_beq_eq_true hb]; exact tyOk102
  · rename_i hb; cases h; rw [Nat.eq_of_beq_eq_true hb]; exact tyOk103
  · rename_i hb; cases h; rw [Nat.eq_of_beq_eq_true hb]; exact tyOk104
  · rename_i hb; cases h; rw [Nat.eq_of_beq_eq_true hb]; exact tyOk105
  · rename_i hb; cases h; rw [Nat.eq_of_beq_eq_true hb]; exact tyOk106
  · rename_i hb; cases h; rw [Nat.eq_of_beq_eq_true hb]; exact tyOk107
  · rename_i hb; cases h; rw [Nat.eq_of_beq_eq_true hb]; exact tyOk108
  · rename_i hb; cases h; rw [Nat.eq_of_beq_eq_true hb]; exact tyOk109
  · rename_i hb; cases h; rw [Nat.eq_of_beq_eq_true hb]; exact tyOk110
  · rename_i hb; cases h; rw [Nat.eq_of_beq_eq_true hb]; exact tyOk112
  · rename_i hb; cases h; rw [Nat.eq_of_beq_eq_true hb]; exact tyOk113
  · rename_i hb; cases h; rw [Nat.eq_of_beq_eq_true hb]; exact tyOk114
  · rename_i hb; cases h; rw [Nat.eq_of_beq_eq_true hb]; exact tyOk115
  · rename_i hb; cases h; rw [Nat.eq_of_beq_eq_true hb]; exact tyOk116
  · rename_i hb; cases h; rw [Nat.eq_of_beq_eq_true hb]; exact tyOk117
  · rename_i hb; cases h; rw [Nat.eq_of_beq_eq_true hb]; exact tyOk118
  · rename_i hb; cases h; rw [Nat.eq_of_beq_eq_true hb]; exact tyOk119
  · rename_i hb; cases h; rw [Nat.eq_of_beq_eq_true hb]; exact tyOk120
  · rename_i hb; cases h; rw [Nat.eq_of_beq_eq_true hb]; exact tyOk121
  · rename_i hb; cases h; rw [Nat.eq_of_beq_eq_true hb]; exact tyOk125
  · rename_i hb; cases h; rw [Nat.eq_of_beq_eq_true hb]; exact tyOk126
  · rename_i hb; cases h; rw [Nat.eq_of_beq_eq_true hb]; exact tyOk127
  · rename_i hb; cases h; rw [Nat.eq_of_beq_eq_true hb]; exact tyOk128
  · rename_i hb; cases h; rw [Nat.eq_of_beq_eq_true hb]; exact tyOk129
  · rename_i hb; cases h; rw [Nat.eq_of_beq_eq_true hb]; exact tyOk130
  · rename_i hb; cases h; rw [Nat.eq_of_beq_eq_true hb]; exact tyOk131
  · rename_i hb; cases h; rw [Nat.eq_of_beq_eq_true hb]; exact tyOk132
  · rename_i hb; cases h; rw [Nat.eq_of_beq_eq_true hb]; exact tyOk133
  · rename_i hb; cases h; rw [Nat.eq_of_beq_eq_true hb]; exact tyOk134
end Go.Sx.Try
end
