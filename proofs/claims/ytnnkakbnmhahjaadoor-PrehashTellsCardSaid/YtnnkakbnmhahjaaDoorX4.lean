/-
  Part of the proof of a statement: the means.
-/
import Derived.Test.YtnnkakbnmhahjaaDoorChecked
import Derived.Test.YtnnkakbnmhahjaaDoorX3
import Derived.KernelRfl
import Derived.Laws.Bits64
import Derived.Test.YtnnkakbnmhahjaaDoorTie
import Derived.Test.YtnnkakbnmhahjaaDoorCards
set_option linter.unusedSectionVars false
set_option linter.unusedVariables false
set_option linter.unusedSimpArgs false
set_option linter.deprecated false
section
set_option maxRecDepth 100000
namespace Go.Sx.Tryd
open Go.Proofs
def ty1 : TI := ⟨1, false, 8, .val Value.nilFunc, .other⟩
def ty2 : TI := ⟨1, false, 8, .lit .i64 0, .int .i64⟩
def ty3 : TI := ⟨1, false, 8, .lit .i64 0, .int .i64⟩
def ty4 : TI := ⟨1, false, 1, .bl false, .bool⟩
def ty5 : TI := ⟨1, false, 1, .lit .u8 0, .int .u8⟩
def ty6 : TI := ⟨1, false, 1, .lit .u8 0, .int .u8⟩
def ty7 : TI := ⟨4, true, 24, .agg [.lit .i64 0, .lit .i64 0, .bl false, .lit .u8 0], .st [(0, 2), (1, 3), (2, 4), (3, 6)]⟩
def ty8 : TI := ⟨4, true, 24, .agg [.lit .i64 0, .lit .i64 0, .bl false, .lit .u8 0], .st [(0, 2), (1, 3), (2, 4), (3, 6)]⟩
def ty9 : TI := ⟨1, false, 16, .val (.string ⟨#[]⟩), .str⟩
def ty10 : TI := ⟨1, false, 16, .val (.string ⟨#[]⟩), .str⟩
def ty11 : TI := ⟨1, false, 16, .val (.string ⟨#[]⟩), .str⟩
def ty12 : TI := ⟨1, false, 8, .lit .u64 0, .int .u64⟩
def ty13 : TI := ⟨2, true, 24, .agg [.val (.string ⟨#[]⟩), .lit .u64 0], .st [(0, 9), (1, 12)]⟩
def ty14 : TI := ⟨2, true, 24, .agg [.val (.string ⟨#[]⟩), .lit .u64 0], .st [(0, 9), (1, 12)]⟩
def ty15 : TI := ⟨1, false, 8, .val (.pointer none), .ptr 91⟩
def ty16 : TI := ⟨1, false, 8, .val (.pointer none), .ptr 94⟩
def ty17 : TI := ⟨1, false, 8, .val (.pointer none), .ptr 103⟩
def ty18 : TI := ⟨1, true, 8, .agg [.val (.pointer none)], .st [(0, 17)]⟩
def ty19 : TI := ⟨1, true, 8, .agg [.val (.pointer none)], .st [(0, 17)]⟩
def ty20 : TI := ⟨1, false, 16, .val Value.nilIface, .other⟩
def ty21 : TI := ⟨1, false, 4, .lit .i32 0, .int .i32⟩
def ty22 : TI := ⟨1, false, 8, .lit .u64 0, .int .u64⟩
def ty23 : TI := ⟨25, true, 200, .row .u64 25 [0, 0, 0, 0, 0, 0, 0, 0, 0, 0, 0, 0, 0, 0, 0, 0, 0, 0, 0, 0, 0, 0, 0, 0, 0], .arr 25 22⟩
def ty24 : TI := ⟨25, true, 200, .row .u64 25 [0, 0, 0, 0, 0, 0, 0, 0, 0, 0, 0, 0, 0, 0, 0, 0, 0, 0, 0, 0, 0, 0, 0, 0, 0], .arr 25 22⟩
def ty25 : TI := ⟨1, false, 8, .val Value.nilFunc, .other⟩
def ty26 : TI := ⟨1, false, 8, .val Value.nilFunc, .other⟩
def ty27 : TI := ⟨1, false, 8, .val Value.nilFunc, .other⟩
def ty28 : TI := ⟨1, false, 8, .val Value.nilFunc, .other⟩
def ty29 : TI := ⟨1, false, 8, .val Value.nilFunc, .other⟩
def ty30 : TI := ⟨1, false, 24, .val (.slice none 0 0), .slice 5⟩
def ty31 : TI := ⟨1, false, 8, .lit .i64 0, .int .i64⟩
def ty33 : TI := ⟨1, false, 8, .val Value.nilFunc, .other⟩
def ty34 : TI := ⟨1, false, 8, .val Value.nilFunc, .other⟩
def ty35 : TI := ⟨1, false, 8, .val Value.nilFunc, .other⟩
def ty36 : TI := ⟨1, false, 8, .val Value.nilFunc, .other⟩
def ty37 : TI := ⟨1, false, 8, .val Value.nilFunc, .other⟩
def ty38 : TI := ⟨1, false, 8, .val Value.nilFunc, .other⟩
def ty39 : TI := ⟨1, false, 8, .val Value.nilFunc, .other⟩
def ty40 : TI := ⟨1, false, 24, .val (.slice none 0 0), .slice 30⟩
def ty41 : TI := ⟨1, false, 8, .val Value.nilFunc, .other⟩
def ty43 : TI := ⟨1, false, 8, .val Value.nilFunc, .other⟩
def ty44 : TI := ⟨1, false, 8, .val Value.nilFunc, .other⟩
def ty45 : TI := ⟨1, false, 8, .val Value.nilFunc, .other⟩
def ty46 : TI := ⟨1, false, 24, .val (.slice none 0 0), .slice 3⟩
def ty47 : TI := ⟨1, false, 8, .val (.pointer none), .ptr 77⟩
def ty48 : TI := ⟨1, false, 8, .val Value.nilFunc, .other⟩
def ty49 : TI := ⟨1, false, 8, .val Value.nilFunc, .other⟩
def ty50 : TI := ⟨1, false, 8, .val Value.nilFunc, .other⟩
def ty51 : TI := ⟨1, false, 8, .val Value.nilFunc, .other⟩
def ty52 : TI := ⟨2, true, 16, .row .i64 2 [0, 0], .arr 2 3⟩
def ty53 : TI := ⟨1, false, 8, .val Value.nilFunc, .other⟩
def ty54 : TI := ⟨1, false, 24, .val (.slice none 0 0), .slice 57⟩
def ty55 : TI := ⟨1, false, 8, .val Value.nilFunc, .other⟩
def ty56 : TI := ⟨3, true, 40, .agg [.lit .i64 0, .val (.slice none 0 0), .lit .i64 0], .st [(0, 3), (1, 30), (2, 3)]⟩
def ty57 : TI := ⟨3, true, 40, .agg [.lit .i64 0, .val (.slice none 0 0), .lit .i64 0], .st [(0, 3), (1, 30), (2, 3)]⟩
def ty58 : TI := ⟨1, false, 8, .val Value.nilFunc, .other⟩
def ty59 : TI := ⟨1, false, 8, .val (.pointer none), .ptr 82⟩
def ty60 : TI := ⟨1, false, 8, .val Value.nilFunc, .other⟩
def ty62 : TI := ⟨1, false, 8, .val Value.nilFunc, .other⟩
def ty63 : TI := ⟨1, false, 8, .val Value.nilFunc, .other⟩
def ty64 : TI := ⟨1, false, 8, .val Value.nilFunc, .other⟩
def ty65 : TI := ⟨1, false, 8, .val Value.nilFunc, .other⟩
def ty66 : TI := ⟨1, false, 8, .val Value.nilFunc, .other⟩
def ty67 : TI := ⟨1, false, 8, .val Value.nilFunc, .other⟩
def ty68 : TI := ⟨24, true, 192, .row .u64 24 [0, 0, 0, 0, 0, 0, 0, 0, 0, 0, 0, 0, 0, 0, 0, 0, 0, 0, 0, 0, 0, 0, 0, 0], .arr 24 22⟩
def ty69 : TI := ⟨25, true, 200, .row .i64 25 [0, 0, 0, 0, 0, 0, 0, 0, 0, 0, 0, 0, 0, 0, 0, 0, 0, 0, 0, 0, 0, 0, 0, 0, 0], .arr 25 3⟩
def ty70 : TI := ⟨1, false, 8, .val Value.nilFunc, .other⟩
def ty71 : TI := ⟨1, false, 8, .val Value.nilFunc, .other⟩
def ty72 : TI := ⟨5, true, 40, .row .u64 5 [0, 0, 0, 0, 0], .arr 5 22⟩
def ty73 : TI := ⟨1, false, 8, .val Value.nilFunc, .other⟩
def ty74 : TI := ⟨1, false, 8, .lit .u64 0, .int .u64⟩
def ty75 : TI := ⟨1, false, 8, .val Value.nilFunc, .other⟩
def ty76 : TI := ⟨27, true, 232, .agg [.row .u64 25 [0, 0, 0, 0, 0, 0, 0, 0, 0, 0, 0, 0, 0, 0, 0, 0, 0, 0, 0, 0, 0, 0, 0, 0, 0], .val (.slice none 0 0), .bl false], .st [(0, 24), (25, 30), (26, 4)]⟩
def ty77 : TI := ⟨27, true, 232, .agg [.row .u64 25 [0, 0, 0, 0, 0, 0, 0, 0, 0, 0, 0, 0, 0, 0, 0, 0, 0, 0, 0, 0, 0, 0, 0, 0, 0], .val (.slice none 0 0), .bl false], .st [(0, 24), (25, 30), (26, 4)]⟩
def ty78 : TI := ⟨1, false, 8, .val Value.nilFunc, .other⟩
def ty79 : TI := ⟨1, true, 8, .agg [.lit .i64 0], .st [(0, 3)]⟩
def ty80 : TI := ⟨1, true, 8, .agg [.lit .i64 0], .st [(0, 3)]⟩
def ty81 : TI := ⟨2, true, 16, .agg [.agg [.lit .i64 0], .val (.pointer none)], .st [(0, 80), (1, 47)]⟩
def ty82 : TI := ⟨2, true, 16, .agg [.agg [.lit .i64 0], .val (.pointer none)], .st [(0, 80), (1, 47)]⟩
def ty83 : TI := ⟨1, false, 8, .val Value.nilFunc, .other⟩
def ty84 : TI := ⟨1, false, 8, .val (.pointer none), .ptr 24⟩
def ty85 : TI := ⟨1, false, 8, .val Value.nilFunc, .other⟩
def ty86 : TI := ⟨24, true, 192, .row .i64 24 [0, 0, 0, 0, 0, 0, 0, 0, 0, 0, 0, 0, 0, 0, 0, 0, 0, 0, 0, 0, 0, 0, 0, 0], .arr 24 3⟩
def ty87 : TI := ⟨1, false, 24, .val (.slice none 0 0), .slice 22⟩
def ty88 : TI := ⟨1, false, 8, .val (.pointer none), .ptr 80⟩
def ty89 : TI := ⟨1, false, 8, .val Value.nilFunc, .other⟩
def ty90 : TI := ⟨4, true, 40, .agg [.val (.pointer none), .val (.pointer none), .val (.pointer none), .val (.string ⟨#[]⟩)], .st [(0, 17), (1, 17), (2, 17), (3, 9)]⟩
def ty91 : TI := ⟨4, true, 40, .agg [.val (.pointer none), .val (.pointer none), .val (.pointer none), .val (.string ⟨#[]⟩)], .st [(0, 17), (1, 17), (2, 17), (3, 9)]⟩
def ty95 : TI := ⟨1, false, 4, .lit .u32 0, .int .u32⟩
def ty96 : TI := ⟨1, false, 1, .lit .u8 0, .int .u8⟩
def ty97 : TI := ⟨1, false, 1, .lit .u8 0, .int .u8⟩
def ty98 : TI := ⟨1, false, 8, .val Value.nilFunc, .other⟩
def ty99 : TI := ⟨1, false, 8, .val (.pointer none), .ptr 5⟩
def ty100 : TI := ⟨1, false, 4, .lit .i32 0, .int .i32⟩
def ty101 : TI := ⟨1, false, 4, .lit .i32 0, .int .i32⟩
def ty102 : TI := ⟨11, true, 48, .agg [.lit .u64 0, .lit .u64 0, .lit .u32 0, .lit .u8 0, .lit .u8 0, .lit .u8 0, .lit .u8 0, .val Value.nilFunc, .val (.pointer none), .lit .i32 0, .lit .i32 0], .st [(0, 12), (1, 12), (2, 95), (3, 96), (4, 5), (5, 5), (6, 97), (7, 98), (8, 99), (9, 100), (10, 101)]⟩
def ty103 : TI := ⟨11, true, 48, .agg [.lit .u64 0, .lit .u64 0, .lit .u32 0, .lit .u8 0, .lit .u8 0, .lit .u8 0, .lit .u8 0, .val Value.nilFunc, .val (.pointer none), .lit .i32 0, .lit .i32 0], .st [(0, 12), (1, 12), (2, 95), (3, 96), (4, 5), (5, 5), (6, 97), (7, 98), (8, 99), (9, 100), (10, 101)]⟩
def T (t : TypeId) : Option TI :=
 match Nat.blt t 51 with
 | true => (match Nat.blt t 25 with
  | true => (match Nat.blt t 13 with
   | true => (match Nat.blt t 7 with
    | true => (match Nat.blt t 4 with
     | true => (match Nat.blt t 2 with
      | true => (match Nat.beq t 1 with | true => some ty1 | false => none)
      | false => (match Nat.blt t 3 with
       | true => (match Nat.beq t 2 with | true => some ty2 | false => none)
       | false => (match Nat.beq t 3 with | true => some ty3 | false => none)))
     | false => (match Nat.blt t 5 with
      | true => (match Nat.beq t 4 with | true => some ty4 | false => none)
      | false => (match Nat.blt t 6 with
       | true => (match Nat.beq t 5 with | true => some ty5 | false => none)
       | false => (match Nat.beq t 6 with | true => some ty6 | false => none))))
    | false => (match Nat.blt t 10 with
     | true => (match Nat.blt t 8 with
      | true => (match Nat.beq t 7 with | true => some ty7 | false => none)
      | false => (match Nat.blt t 9 with
       | true => (match Nat.beq t 8 with | true => some ty8 | false => none)
       | false => (match Nat.beq t 9 with | true => some ty9 | false => none)))
     | false => (match Nat.blt t 11 with
      | true => (match Nat.beq t 10 with | true => some ty10 | false => none)
      | false => (match Nat.blt t 12 with
       | true => (match Nat.beq t 11 with | true => some ty11 | false => none)
       | false => (match Nat.beq t 12 with | true => some ty12 | false => none)))))
   | false => (match Nat.blt t 19 with
    | true => (match Nat.blt t 16 with
     | true => (match Nat.blt t 14 with
      | true => (match Nat.beq t 13 with | true => some ty13 | false => none)
      | false => (match Nat.blt t 15 with
       | true => (match Nat.beq t 14 with | true => some ty14 | false => none)
       | false => (match Nat.beq t 15 with | true => some ty15 | false => none)))
     | false => (match Nat.blt t 17 with
      | true => (match Nat.beq t 16 with | true => some ty16 | false => none)
      | false => (match Nat.blt t 18 with
       | true => (match Nat.beq t 17 with | true => some ty17 | false => none)
       | false => (match Nat.beq t 18 with | true => some ty18 | false => none))))
    | false => (match Nat.blt t 22 with
     | true => (match Nat.blt t 20 with
      | true => (match Nat.beq t 19 with | true => some ty19 | false => none)
      | false => (match Nat.blt t 21 with
       | true => (match Nat.beq t 20 with | true => some ty20 | false => none)
       | false => (match Nat.beq t 21 with | true => some ty21 | false => none)))
     | false => (match Nat.blt t 23 with
      | true => (match Nat.beq t 22 with | true => some ty22 | false => none)
      | false => (match Nat.blt t 24 with
       | true => (match Nat.beq t 23 with | true => some ty23 | false => none)
       | false => (match Nat.beq t 24 with | true => some ty24 | false => none))))))
  | false => (match Nat.blt t 38 with
   | true => (match Nat.blt t 31 with
    | true => (match Nat.blt t 28 with
     | true => (match Nat.blt t 26 with
      | true => (match Nat.beq t 25 with | true => some ty25 | false => none)
      | false => (match Nat.blt t 27 with
       | true => (match Nat.beq t 26 with | true => some ty26 | false => none)
       | false => (match Nat.beq t 27 with | true => some ty27 | false => none)))
     | false => (match Nat.blt t 29 with
      | true => (match Nat.beq t 28 with | true => some ty28 | false => none)
      | false => (match Nat.blt t 30 with
       | true => (match Nat.beq t 29 with | true => some ty29 | false => none)
       | false => (match Nat.beq t 30 with | true => some ty30 | false => none))))
    | false => (match Nat.blt t 35 with
     | true => (match Nat.blt t 33 with
      | true => (match Nat.beq t 31 with | true => some ty31 | false => none)
      | false => (match Nat.blt t 34 with
       | true => (match Nat.beq t 33 with | true => some ty33 | false => none)
       | false => (match Nat.beq t 34 with | true => some ty34 | false => none)))
     | false => (match Nat.blt t 36 with
      | true => (match Nat.beq t 35 with | true => some ty35 | false => none)
      | false => (match Nat.blt t 37 with
       | true => (match Nat.beq t 36 with | true => some ty36 | false => none)
       | false => (match Nat.beq t 37 with | true => some ty37 | false => none)))))
   | false => (match Nat.blt t 45 with
    | true => (match Nat.blt t 41 with
     | true => (match Nat.blt t 39 with
      | true => (match Nat.beq t 38 with | true => some ty38 | false => none)
      | false => (match Nat.blt t 40 with
       | true => (match Nat.beq t 39 with | true => some ty39 | false => none)
       | false => (match Nat.beq t 40 with | true => some ty40 | false => none)))
     | false => (match Nat.blt t 43 with
      | true => (match Nat.beq t 41 with | true => some ty41 | false => none)
      | false => (match Nat.blt t 44 with
       | true => (match Nat.beq t 43 with | true => some ty43 | false => none)
       | false => (match Nat.beq t 44 with | true => some ty44 | false => none))))
    | false => (match Nat.blt t 48 with
     | true => (match Nat.blt t 46 with
      | true => (match Nat.beq t 45 with | true => some ty45 | false => none)
      | false => (match Nat.blt t 47 with
       | true => (match Nat.beq t 46 with | true => some ty46 | false => none)
       | false => (match Nat.beq t 47 with | true => some ty47 | false => none)))
     | false => (match Nat.blt t 49 with
      | true => (match Nat.beq t 48 with | true => some ty48 | false => none)
      | false => (match Nat.blt t 50 with
       | true => (match Nat.beq t 49 with | true => some ty49 | false => none)
       | false => (match Nat.beq t 50 with | true => some ty50 | false => none)))))))
 | false => (match Nat.blt t 76 with
  | true => (match Nat.blt t 64 with
   | true => (match Nat.blt t 57 with
    | true => (match Nat.blt t 54 with
     | true => (match Nat.blt t 52 with
      | true => (match Nat.beq t 51 with | true => some ty51 | false => none)
      | false => (match Nat.blt t 53 with
       | true => (match Nat.beq t 52 with | true => some ty52 | false => none)
       | false => (match Nat.beq t 53 with | true => some ty53 | false => none)))
     | false => (match Nat.blt t 55 with
      | true => (match Nat.beq t 54 with | true => some ty54 | false => none)
      | false => (match Nat.blt t 56 with
       | true => (match Nat.beq t 55 with | true => some ty55 | false => none)
       | false => (match Nat.beq t 56 with | true => some ty56 | false => none))))
    | false => (match Nat.blt t 60 with
     | true => (match Nat.blt t 58 with
      | true => (match Nat.beq t 57 with | true => some ty57 | false => none)
      | false => (match Nat.blt t 59 with
       | true => (match Nat.beq t 58 with | true => some ty58 | false => none)
       | false => (match Nat.beq t 59 with | true => some ty59 | false => none)))
     | false => (match Nat.blt t 62 with
      | true => (match Nat.beq t 60 with | true => some ty60 | false => none)
      | false => (match Nat.blt t 63 with
       | true => (match Nat.beq t 62 with | true => some ty62 | false => none)
       | false => (match Nat.beq t 63 with | true => some ty63 | false => none)))))
   | false => (match Nat.blt t 70 with
    | true => (match Nat.blt t 67 with
     | true => (match Nat.blt t 65 with
      | true => (match Nat.beq t 64 with | true => some ty64 | false => none)
      | false => (match Nat.blt t 66 with
       | true => (match Nat.beq t 65 with | true => some ty65 | false => none)
       | false => (match Nat.beq t 66 with | true => some ty66 | false => none)))
     | false => (match Nat.blt t 68 with
      | true => (match Nat.beq t 67 with | true => some ty67 | false => none)
      | false => (match Nat.blt t 69 with
       | true => (match Nat.beq t 68 with | true => some ty68 | false => none)
       | false => (match Nat.beq t 69 with | true => some ty69 | false => none))))
    | false => (match Nat.blt t 73 with
     | true => (match Nat.blt t 71 with
      | true => (match Nat.beq t 70 with | true => some ty70 | false => none)
      | false => (match Nat.blt t 72 with
       | true => (match Nat.beq t 71 with | true => some ty71 | false => none)
       | false => (match Nat.beq t 72 with | true => some ty72 | false => none)))
     | false => (match Nat.blt t 74 with
      | true => (match Nat.beq t 73 with | true => some ty73 | false => none)
      | false => (match Nat.blt t 75 with
       | true => (match Nat.beq t 74 with | true => some ty74 | false => none)
       | false => (match Nat.beq t 75 with | true => some ty75 | false => none))))))
  | false => (match Nat.blt t 88 with
   | true => (match Nat.blt t 82 with
    | true => (match Nat.blt t 79 with
     | true => (match Nat.blt t 77 with
      | true => (match Nat.beq t 76 with | true => some ty76 | false => none)
      | false => (match Nat.blt t 78 with
       | true => (match Nat.beq t 77 with | true => some ty77 | false => none)
       | false => (match Nat.beq t 78 with | true => some ty78 | false => none)))
     | false => (match Nat.blt t 80 with
      | true => (match Nat.beq t 79 with | true => some ty79 | false => none)
      | false => (match Nat.blt t 81 with
       | true => (match Nat.beq t 80 with | true => some ty80 | false => none)
       | false => (match Nat.beq t 81 with | true => some ty81 | false => none))))
    | false => (match Nat.blt t 85 with
     | true => (match Nat.blt t 83 with
      | true => (match Nat.beq t 82 with | true => some ty82 | false => none)
      | false => (match Nat.blt t 84 with
       | true => (match Nat.beq t 83 with | true => some ty83 | false => none)
       | false => (match Nat.beq t 84 with | true => some ty84 | false => none)))
     | false => (match Nat.blt t 86 with
      | true => (match Nat.beq t 85 with | true => some ty85 | false => none)
      | false => (match Nat.blt t 87 with
       | true => (match Nat.beq t 86 with | true => some ty86 | false => none)
       | false => (match Nat.beq t 87 with | true => some ty87 | false => none)))))
   | false => (match Nat.blt t 97 with
    | true => (match Nat.blt t 91 with
     | true => (match Nat.blt t 89 with
      | true => (match Nat.beq t 88 with | true => some ty88 | false => none)
      | false => (match Nat.blt t 90 with
       | true => (match Nat.beq t 89 with | true => some ty89 | false => none)
       | false => (match Nat.beq t 90 with | true => some ty90 | false => none)))
     | false => (match Nat.blt t 95 with
      | true => (match Nat.beq t 91 with | true => some ty91 | false => none)
      | false => (match Nat.blt t 96 with
       | true => (match Nat.beq t 95 with | true => some ty95 | false => none)
       | false => (match Nat.beq t 96 with | true => some ty96 | false => none))))
    | false => (match Nat.blt t 100 with
     | true => (match Nat.blt t 98 with
      | true => (match Nat.beq t 97 with | true => some ty97 | false => none)
      | false => (match Nat.blt t 99 with
       | true => (match Nat.beq t 98 with | true => some ty98 | false => none)
       | false => (match Nat.beq t 99 with | true => some ty99 | false => none)))
     | false => (match Nat.blt t 102 with
      | true => (match Nat.blt t 101 with
       | true => (match Nat.beq t 100 with | true => some ty100 | false => none)
       | false => (match Nat.beq t 101 with | true => some ty101 | false => none))
      | false => (match Nat.blt t 103 with
       | true => (match Nat.beq t 102 with | true => some ty102 | false => none)
       | false => (match Nat.beq t 103 with | true => some ty103 | false => none)))))))
theorem tyOk1 : TyOk Tryd.prog 1 ty1 := tyOk_of Tryd.type1 Tryd.underlying1 (by rfl) (by rfl) (by rfl) (by rfl) (by rfl) (by rfl) (by rfl) (by rfl)
theorem tyOk2 : TyOk Tryd.prog 2 ty2 := tyOk_of Tryd.type2 Tryd.underlying2 (by rfl) (by rfl) (by rfl) (by rfl) (by rfl) (by rfl) (by rfl) (by rfl)
theorem tyOk3 : TyOk Tryd.prog 3 ty3 := tyOk_of Tryd.type3 Tryd.underlying3 (by rfl) (by rfl) (by rfl) (by rfl) (by rfl) (by rfl) (by rfl) (by rfl)
theorem tyOk4 : TyOk Tryd.prog 4 ty4 := tyOk_of Tryd.type4 Tryd.underlying4 (by rfl) (by rfl) (by rfl) (by rfl) (by rfl) (by rfl) (by rfl) (by rfl)
theorem tyOk5 : TyOk Tryd.prog 5 ty5 := tyOk_of Tryd.type5 Tryd.underlying5 (by rfl) (by rfl) (by rfl) (by rfl) (by rfl) (by rfl) (by rfl) (by rfl)
theorem tyOk6 : TyOk Tryd.prog 6 ty6 := tyOk_of Tryd.type6 Tryd.underlying6 (by rfl) (by rfl) (by rfl) (by rfl) (by rfl) (by rfl) (by rfl) (by rfl)
theorem tyOk7 : TyOk Tryd.prog 7 ty7 := tyOk_of Tryd.type7 Tryd.underlying7 (by rfl) (by rfl) (by rfl) (by rfl) (by rfl) (by rfl) (by rfl) (by rfl)
theorem tyOk8 : TyOk Tryd.prog 8 ty8 := tyOk_of Tryd.type8 Tryd.underlying8 (by rfl) (by rfl) (by rfl) (by rfl) (by rfl) (by rfl) (by rfl) (by rfl)
theorem tyOk9 : TyOk Tryd.prog 9 ty9 := tyOk_of Tryd.type9 Tryd.underlying9 (by rfl) (by rfl) (by rfl) (by rfl) (by rfl) (by rfl) (by rfl) (by rfl)
theorem tyOk10 : TyOk Tryd.prog 10 ty10 := tyOk_of Tryd.type10 Tryd.underlying10 (by rfl) (by rfl) (by rfl) (by rfl) (by rfl) (by rfl) (by rfl) (by rfl)
theorem tyOk11 : TyOk Tryd.prog 11 ty11 := tyOk_of Tryd.type11 Tryd.underlying11 (by rfl) (by rfl) (by rfl) (by rfl) (by rfl) (by rfl) (by rfl) (by rfl)
theorem tyOk12 : TyOk Tryd.prog 12 ty12 := tyOk_of Tryd.type12 Tryd.underlying12 (by rfl) (by rfl) (by rfl) (by rfl) (by rfl) (by rfl) (by rfl) (by rfl)
theorem tyOk13 : TyOk Tryd.prog 13 ty13 := tyOk_of Tryd.type13 Tryd.underlying13 (by rfl) (by rfl) (by rfl) (by rfl) (by rfl) (by rfl) (by rfl) (by rfl)
theorem tyOk14 : TyOk Tryd.prog 14 ty14 := tyOk_of Tryd.type14 Tryd.underlying14 (by rfl) (by rfl) (by rfl) (by rfl) (by rfl) (by rfl) (by rfl) (by rfl)
theorem tyOk15 : TyOk Tryd.prog 15 ty15 := tyOk_of Tryd.type15 Tryd.underlying15 (by rfl) (by rfl) (by rfl) (by rfl) (by rfl) (by rfl) (by rfl) (by rfl)
theorem tyOk16 : TyOk Tryd.prog 16 ty16 := tyOk_of Tryd.type16 Tryd.underlying16 (by rfl) (by rfl) (by rfl) (by rfl) (by rfl) (by rfl) (by rfl) (by rfl)
theorem tyOk17 : TyOk Tryd.prog 17 ty17 := tyOk_of Tryd.type17 Tryd.underlying17 (by rfl) (by rfl) (by rfl) (by rfl) (by rfl) (by rfl) (by rfl) (by rfl)
theorem tyOk18 : TyOk Tryd.prog 18 ty18 := tyOk_of Tryd.type18 Tryd.underlying18 (by rfl) (by rfl) (by rfl) (by rfl) (by rfl) (by rfl) (by rfl) (by rfl)
theorem tyOk19 : TyOk Tryd.prog 19 ty19 := tyOk_of Tryd.type19 Tryd.underlying19 (by rfl) (by rfl) (by rfl) (by rfl) (by rfl) (by rfl) (by rfl) (by rfl)
theorem tyOk20 : TyOk Tryd.prog 20 ty20 := tyOk_of Tryd.type20 Tryd.underlying20 (by rfl) (by rfl) (by rfl) (by rfl) (by rfl) (by rfl) (by rfl) (by rfl)
theorem tyOk21 : TyOk Tryd.prog 21 ty21 := tyOk_of Tryd.type21 Tryd.underlying21 (by rfl) (by rfl) (by rfl) (by rfl) (by rfl) (by rfl) (by rfl) (by rfl)
theorem tyOk22 : TyOk Tryd.prog 22 ty22 := tyOk_of Tryd.type22 Tryd.underlying22 (by rfl) (by rfl) (by rfl) (by rfl) (by rfl) (by rfl) (by rfl) (by rfl)
theorem tyOk23 : TyOk Tryd.prog 23 ty23 := tyOk_of Tryd.type23 Tryd.underlying23 (by rfl) (by rfl) (by rfl) (by rfl) (by rfl) (by rfl) (by rfl) (by rfl)
theorem tyOk24 : TyOk Tryd.prog 24 ty24 := tyOk_of Tryd.type24 Tryd.underlying24 (by rfl) (by rfl) (by rfl) (by rfl) (by rfl) (by rfl) (by rfl) (by rfl)
theorem tyOk25 : TyOk Tryd.prog 25 ty25 := tyOk_of Tryd.type25 Tryd.underlying25 (by rfl) (by rfl) (by rfl) (by rfl) (by rfl) (by rfl) (by rfl) (by rfl)
theorem tyOk26 : TyOk Tryd.prog 26 ty26 := tyOk_of Tryd.type26 Tryd.underlying26 (by rfl) (by rfl) (by rfl) (by rfl) (by rfl) (by rfl) (by rfl) (by rfl)
theorem tyOk27 : TyOk Tryd.prog 27 ty27 := tyOk_of Tryd.type27 Tryd.underlying27 (by rfl) (by rfl) (by rfl) (by rfl) (by rfl) (by rfl) (by rfl) (by rfl)
theorem tyOk28 : TyOk Tryd.prog 28 ty28 := tyOk_of Tryd.type28 Tryd.underlying28 (by rfl) (by rfl) (by rfl) (by rfl) (by rfl) (by rfl) (by rfl) (by rfl)
theorem tyOk29 : TyOk Tryd.prog 29 ty29 := tyOk_of Tryd.type29 Tryd.underlying29 (by rfl) (by rfl) (by rfl) (by rfl) (by rfl) (by rfl) (by rfl) (by rfl)
theorem tyOk30 : TyOk Tryd.prog 30 ty30 := tyOk_of Tryd.type30 Tryd.underlying30 (by rfl) (by rfl) (by rfl) (by rfl) (by rfl) (by rfl) (by rfl) (by rfl)
theorem tyOk31 : TyOk Tryd.prog 31 ty31 := tyOk_of Tryd.type31 Tryd.underlying31 (by rfl) (by rfl) (by rfl) (by rfl) (by rfl) (by rfl) (by rfl) (by rfl)
theorem tyOk33 : TyOk Tryd.prog 33 ty33 := tyOk_of Tryd.type33 Tryd.underlying33 (by rfl) (by rfl) (by rfl) (by rfl) (by rfl) (by rfl) (by rfl) (by rfl)
theorem tyOk34 : TyOk Tryd.prog 34 ty34 := tyOk_of Tryd.type34 Tryd.underlying34 (by rfl) (by rfl) (by rfl) (by rfl) (by rfl) (by rfl) (by rfl) (by rfl)
theorem tyOk35 : TyOk Tryd.prog 35 ty35 := tyOk_of Tryd.type35 Tryd.underlying35 (by rfl) (by rfl) (by rfl) (by rfl) (by rfl) (by rfl) (by rfl) (by rfl)
theorem tyOk36 : TyOk Tryd.prog 36 ty36 := tyOk_of Tryd.type36 Tryd.underlying36 (by rfl) (by rfl) (by rfl) (by rfl) (by rfl) (by rfl) (by rfl) (by rfl)
theorem tyOk37 : TyOk Tryd.prog 37 ty37 := tyOk_of Tryd.type37 Tryd.underlying37 (by rfl) (by rfl) (by rfl) (by rfl) (by rfl) (by rfl) (by rfl) (by rfl)
theorem tyOk38 : TyOk Tryd.prog 38 ty38 := tyOk_of Tryd.type38 Tryd.underlying38 (by rfl) (by rfl) (by rfl) (by rfl) (by rfl) (by rfl) (by rfl) (by rfl)
theorem tyOk39 : TyOk Tryd.prog 39 ty39 := tyOk_of Tryd.type39 Tryd.underlying39 (by rfl) (by rfl) (by rfl) (by rfl) (by rfl) (by rfl) (by rfl) (by rfl)
theorem tyOk40 : TyOk Tryd.prog 40 ty40 := tyOk_of Tryd.type40 Tryd.underlying40 (by rfl) (by rfl) (by rfl) (by rfl) (by rfl) (by rfl) (by rfl) (by rfl)
theorem tyOk41 : TyOk Tryd.prog 41 ty41 := tyOk_of Tryd.type41 Tryd.underlying41 (by rfl) (by rfl) (by rfl) (by rfl) (by rfl) (by rfl) (by rfl) (by rfl)
theorem tyOk43 : TyOk Tryd.prog 43 ty43 := tyOk_of Tryd.type43 Tryd.underlying43 (by rfl) (by rfl) (by rfl) (by rfl) (by rfl) (by rfl) (by rfl) (by rfl)
theorem tyOk44 : TyOk Tryd.prog 44 ty44 := tyOk_of Tryd.type44 Tryd.underlying44 (by rfl) (by rfl) (by rfl) (by rfl) (by rfl) (by rfl) (by rfl) (by rfl)
theorem tyOk45 : TyOk Tryd.prog 45 ty45 := tyOk_of Tryd.type45 Tryd.underlying45 (by rfl) (by rfl) (by rfl) (by rfl) (by rfl) (by rfl) (by rfl) (by rfl)
theorem tyOk46 : TyOk Tryd.prog 46 ty46 := tyOk_of Tryd.type46 Tryd.underlying46 (by rfl) (by rfl) (by rfl) (by rfl) (by rfl) (by rfl) (by rfl) (by rfl)
theorem tyOk47 : TyOk Tryd.prog 47 ty47 := tyOk_of Tryd.type47 Tryd.underlying47 (by rfl) (by rfl) (by rfl) (by rfl) (by rfl) (by rfl) (by rfl) (by rfl)
theorem tyOk48 : TyOk Tryd.prog 48 ty48 := tyOk_of Tryd.type48 Tryd.underlying48 (by rfl) (by rfl) (by rfl) (by rfl) (by rfl) (by rfl) (by rfl) (by rfl)
theorem tyOk49 : TyOk Tryd.prog 49 ty49 := tyOk_of Tryd.type49 Tryd.underlying49 (by rfl) (by rfl) (by rfl) (by rfl) (by rfl) (by rfl) (by rfl) (by rfl)
theorem tyOk50 : TyOk Tryd.prog 50 ty50 := tyOk_of Tryd.type50 Tryd.underlying50 (by rfl) (by rfl) (by rfl) (by rfl) (by rfl) (by rfl) (by rfl) (by rfl)
theorem tyOk51 : TyOk Tryd.prog 51 ty51 := tyOk_of Tryd.type51 Tryd.underlying51 (by rfl) (by rfl) (by rfl) (by rfl) (by rfl) (by rfl) (by rfl) (by rfl)
theorem tyOk52 : TyOk Tryd.prog 52 ty52 := tyOk_of Tryd.type52 Tryd.underlying52 (by rfl) (by rfl) (by rfl) (by rfl) (by rfl) (by rfl) (by rfl) (by rfl)
theorem tyOk53 : TyOk Tryd.prog 53 ty53 := tyOk_of Tryd.type53 Tryd.underlying53 (by rfl) (by rfl) (by rfl) (by rfl) (by rfl) (by rfl) (by rfl) (by rfl)
theorem tyOk54 : TyOk Tryd.prog 54 ty54 := tyOk_of Tryd.type54 Tryd.underlying54 (by rfl) (by rfl) (by rfl) (by rfl) (by rfl) (by rfl) (by rfl) (by rfl)
theorem tyOk55 : TyOk Tryd.prog 55 ty55 := tyOk_of Tryd.type55 Tryd.underlying55 (by rfl) (by rfl) (by rfl) (by rfl) (by rfl) (by rfl) (by rfl) (by rfl)
theorem tyOk56 : TyOk Tryd.prog 56 ty56 := tyOk_of Tryd.type56 Tryd.underlying56 (by rfl) (by rfl) (by rfl) (by rfl) (by rfl) (by rfl) (by rfl) (by rfl)
theorem tyOk57 : TyOk Tryd.prog 57 ty57 := tyOk_of Tryd.type57 Tryd.underlying57 (by rfl) (by rfl) (by rfl) (by rfl) (by rfl) (by rfl) (by rfl) (by rfl)
theorem tyOk58 : TyOk Tryd.prog 58 ty58 := tyOk_of Tryd.type58 Tryd.underlying58 (by rfl) (by rfl) (by rfl) (by rfl) (by rfl) (by rfl) (by rfl) (by rfl)
theorem tyOk59 : TyOk Tryd.prog 59 ty59 := tyOk_of Tryd.type59 Tryd.underlying59 (by rfl) (by rfl) (by rfl) (by rfl) (by rfl) (by rfl) (by rfl) (by rfl)
theorem tyOk60 : TyOk Tryd.prog 60 ty60 := tyOk_of Tryd.type60 Tryd.underlying60 (by rfl) (by rfl) (by rfl) (by rfl) (by rfl) (by rfl) (by rfl) (by rfl)
theorem tyOk62 : TyOk Tryd.prog 62 ty62 := tyOk_of Tryd.type62 Tryd.underlying62 (by rfl) (by rfl) (by rfl) (by rfl) (by rfl) (by rfl) (by rfl) (by rfl)
theorem tyOk63 : TyOk Tryd.prog 63 ty63 := tyOk_of Tryd.type63 Tryd.underlying63 (by rfl) (by rfl) (by rfl) (by rfl) (by rfl) (by rfl) (by rfl) (by rfl)
theorem tyOk64 : TyOk Tryd.prog 64 ty64 := tyOk_of Tryd.type64 Tryd.underlying64 (by rfl) (by rfl) (by rfl) (by rfl) (by rfl) (by rfl) (by rfl) (by rfl)
theorem tyOk65 : TyOk Tryd.prog 65 ty65 := tyOk_of Tryd.type65 Tryd.underlying65 (by rfl) (by rfl) (by rfl) (by rfl) (by rfl) (by rfl) (by rfl) (by rfl)
theorem tyOk66 : TyOk Tryd.prog 66 ty66 := tyOk_of Tryd.type66 Tryd.underlying66 (by rfl) (by rfl) (by rfl) (by rfl) (by rfl) (by rfl) (by rfl) (by rfl)
theorem tyOk67 : TyOk Tryd.prog 67 ty67 := tyOk_of Tryd.type67 Tryd.underlying67 (by rfl) (by rfl) (by rfl) (by rfl) (by rfl) (by rfl) (by rfl) (by rfl)
theorem tyOk68 : TyOk Tryd.prog 68 ty68 := tyOk_of Tryd.type68 Tryd.underlying68 (by rfl) (by rfl) (by rfl) (by rfl) (by rfl) (by rfl) (by rfl) (by rfl)
theorem tyOk69 : TyOk Tryd.prog 69 ty69 := tyOk_of Tryd.type69 Tryd.underlying69 (by rfl) (by rfl) (by rfl) (by rfl) (by rfl) (by rfl) (by rfl) (by rfl)
theorem tyOk70 : TyOk Tryd.prog 70 ty70 := tyOk_of Tryd.type70 Tryd.underlying70 (by rfl) (by rfl) (by rfl) (by rfl) (by rfl) (by rfl) (by rfl) (by rfl)
theorem tyOk71 : TyOk Tryd.prog 71 ty71 := tyOk_of Tryd.type71 Tryd.underlying71 (by rfl) (by rfl) (by rfl) (by rfl) (by rfl) (by rfl) (by rfl) (by rfl)
theorem tyOk72 : TyOk Tryd.prog 72 ty72 := tyOk_of Tryd.type72 Tryd.underlying72 (by rfl) (by rfl) (by rfl) (by rfl) (by rfl) (by rfl) (by rfl) (by rfl)
theorem tyOk73 : TyOk Tryd.prog 73 ty73 := tyOk_of Tryd.type73 Tryd.underlying73 (by rfl) (by rfl) (by rfl) (by rfl) (by rfl) (by rfl) (by rfl) (by rfl)
theorem tyOk74 : TyOk Tryd.prog 74 ty74 := tyOk_of Tryd.type74 Tryd.underlying74 (by rfl) (by rfl) (by rfl) (by rfl) (by rfl) (by rfl) (by rfl) (by rfl)
theorem tyOk75 : TyOk Tryd.prog 75 ty75 := tyOk_of Tryd.type75 Tryd.underlying75 (by rfl) (by rfl) (by rfl) (by rfl) (by rfl) (by rfl) (by rfl) (by rfl)
theorem tyOk76 : TyOk Tryd.prog 76 ty76 := tyOk_of Tryd.type76 Tryd.underlying76 (by rfl) (by rfl) (by rfl) (by rfl) (by rfl) (by rfl) (by rfl) (by rfl)
theorem tyOk77 : TyOk Tryd.prog 77 ty77 := tyOk_of Tryd.type77 Tryd.underlying77 (by rfl) (by rfl) (by rfl) (by rfl) (by rfl) (by rfl) (by rfl) (by rfl)
theorem tyOk78 : TyOk Tryd.prog 78 ty78 := tyOk_of Tryd.type78 Tryd.underlying78 (by rfl) (by rfl) (by rfl) (by rfl) (by rfl) (by rfl) (by rfl) (by rfl)
theorem tyOk79 : TyOk Tryd.prog 79 ty79 := tyOk_of Tryd.type79 Tryd.underlying79 (by rfl) (by rfl) (by rfl) (by rfl) (by rfl) (by rfl) (by rfl) (by rfl)
theorem tyOk80 : TyOk Tryd.prog 80 ty80 := tyOk_of Tryd.type80 Tryd.underlying80 (by rfl) (by rfl) (by rfl) (by rfl) (by rfl) (by rfl) (by rfl) (by rfl)
theorem tyOk81 : TyOk Tryd.prog 81 ty81 := tyOk_of Tryd.type81 Tryd.underlying81 (by rfl) (by rfl) (by rfl) (by rfl) (by rfl) (by rfl) (by rfl) (by rfl)
theorem tyOk82 : TyOk Tryd.prog 82 ty82 := tyOk_of Tryd.type82 Tryd.underlying82 (by rfl) (by rfl) (by rfl) (by rfl) (by rfl) (by rfl) (by rfl) (by rfl)
theorem tyOk83 : TyOk Tryd.prog 83 ty83 := tyOk_of Tryd.type83 Tryd.underlying83 (by rfl) (by rfl) (by rfl) (by rfl) (by rfl) (by rfl) (by rfl) (by rfl)
theorem tyOk84 : TyOk Tryd.prog 84 ty84 := tyOk_of Tryd.type84 Tryd.underlying84 (by rfl) (by rfl) (by rfl) (by rfl) (by rfl) (by rfl) (by rfl) (by rfl)
theorem tyOk85 : TyOk Tryd.prog 85 ty85 := tyOk_of Tryd.type85 Tryd.underlying85 (by rfl) (by rfl) (by rfl) (by rfl) (by rfl) (by rfl) (by rfl) (by rfl)
theorem tyOk86 : TyOk Tryd.prog 86 ty86 := tyOk_of Tryd.type86 Tryd.underlying86 (by rfl) (by rfl) (by rfl) (by rfl) (by rfl) (by rfl) (by rfl) (by rfl)
theorem tyOk87 : TyOk Tryd.prog 87 ty87 := tyOk_of Tryd.type87 Tryd.underlying87 (by rfl) (by rfl) (by rfl) (by rfl) (by rfl) (by rfl) (by rfl) (by rfl)
theorem tyOk88 : TyOk Tryd.prog 88 ty88 := tyOk_of Tryd.type88 Tryd.underlying88 (by rfl) (by rfl) (by rfl) (by rfl) (by rfl) (by rfl) (by rfl) (by rfl)
theorem tyOk89 : TyOk Tryd.prog 89 ty89 := tyOk_of Tryd.type89 Tryd.underlying89 (by rfl) (by rfl) (by rfl) (by rfl) (by rfl) (by rfl) (by rfl) (by rfl)
theorem tyOk90 : TyOk Tryd.prog 90 ty90 := tyOk_of Tryd.type90 Tryd.underlying90 (by rfl) (by rfl) (by rfl) (by rfl) (by rfl) (by rfl) (by rfl) (by rfl)
theorem tyOk91 : TyOk Tryd.prog 91 ty91 := tyOk_of Tryd.type91 Tryd.underlying91 (by rfl) (by rfl) (by rfl) (by rfl) (by rfl) (by rfl) (by rfl) (by rfl)
theorem tyOk95 : TyOk Tryd.prog 95 ty95 := tyOk_of Tryd.type95 Tryd.underlying95 (by rfl) (by rfl) (by rfl) (by rfl) (by rfl) (by rfl) (by rfl) (by rfl)
theorem tyOk96 : TyOk Tryd.prog 96 ty96 := tyOk_of Tryd.type96 Tryd.underlying96 (by rfl) (by rfl) (by rfl) (by rfl) (by rfl) (by rfl) (by rfl) (by rfl)
theorem tyOk97 : TyOk Tryd.prog 97 ty97 := tyOk_of Tryd.type97 Tryd.underlying97 (by rfl) (by rfl) (by rfl) (by rfl) (by rfl) (by rfl) (by rfl) (by rfl)
theorem tyOk98 : TyOk Tryd.prog 98 ty98 := tyOk_of Tryd.type98 Tryd.underlying98 (by rfl) (by rfl) (by rfl) (by rfl) (by rfl) (by rfl) (by rfl) (by rfl)
theorem tyOk99 : TyOk Tryd.prog 99 ty99 := tyOk_of Tryd.type99 Tryd.underlying99 (by rfl) (by rfl) (by rfl) (by rfl) (by rfl) (by rfl) (by rfl) (by rfl)
theorem tyOk100 : TyOk Tryd.prog 100 ty100 := tyOk_of Tryd.type100 Tryd.underlying100 (by rfl) (by rfl) (by rfl) (by rfl) (by rfl) (by rfl) (by rfl) (by rfl)
theorem tyOk101 : TyOk Tryd.prog 101 ty101 := tyOk_of Tryd.type101 Tryd.underlying101 (by rfl) (by rfl) (by rfl) (by rfl) (by rfl) (by rfl) (by rfl) (by rfl)
theorem tyOk102 : TyOk Tryd.prog 102 ty102 := tyOk_of Tryd.type102 Tryd.underlying102 (by rfl) (by rfl) (by rfl) (by rfl) (by rfl) (by rfl) (by rfl) (by rfl)
theorem tyOk103 : TyOk Tryd.prog 103 ty103 := tyOk_of Tryd.type103 Tryd.underlying103 (by rfl) (by rfl) (by rfl) (by rfl) (by rfl) (by rfl) (by rfl) (by rfl)
theorem T_ok : ∀ t ti, T t = some ti → TyOk Tryd.prog t ti := by
  intro t ti h
  unfold T at h
  repeat' split at h
  all_goals first | (cases h; done) | skip
  · rename_i hb; cases h; rw [Nat.eq_of_beq_eq_true hb]; exact tyOk1
  · rename_i hb; cases h; rw [Nat.eq_of_beq_eq_true hb]; exact tyOk2
  · rename_i hb; cases h; rw [Nat.eq_of_beq_eq_true hb]; exact tyOk3
  · rename_i hb; cases h; rw [Nat.eq_of_beq_eq_true hb]; exact tyOk4
  · rename_i hb; cases h; rw [Nat.eq_of_beq_eq_true hb]; exact tyOk5
  · rename_i hb; cases h; rw [Nat.eq_of_beq_eq_true hb]; exact tyOk6
  · rename_i hb; cases h; rw [Nat.eq_of_beq_eq_true hb]; exact tyOk7
  · rename_i hb; cases h; rw [Nat.eq_of_beq_eq_true hb]; exact tyOk8
  · rename_i hb; cases h; rw [Nat.eq_of_beq_eq_true hb]; exact tyOk9
  · rename_i hb; cases h; rw [Nat.eq_of_beq_eq_true hb]; exact tyOk10
  · rename_i hb; cases h; rw [Nat.eq_of_beq_eq_true hb]; exact tyOk11
  · rename_i hb; cases h; rw [Nat.eq_of_beq_eq_true hb]; exact tyOk12
  · rename_i hb; cases h; rw [Nat.eq_of_beq_eq_true hb]; exact tyOk13
  · rename_i hb; cases h; rw [Nat.eq_of_beq_eq_true hb]; exact tyOk14
  · rename_i hb; cases h; rw [Nat.eq_of_beq_eq_true hb]; exact tyOk15
  · rename_i hb; cases h; rw [Nat.eq_of_beq_eq_true hb]; exact tyOk16
  · rename_i hb; cases h; rw [Nat.eq_of_beq_eq_true hb]; exact tyOk17
  · rename_i hb; cases h; rw [Nat.eq_of_beq_eq_true hb]; exact tyOk18
  · rename_i hb; cases h; rw [Nat.eq_of_beq_eq_true hb]; exact tyOk19
  · rename_i hb; cases h; rw [Nat.eq_of_beq_eq_true hb]; exact tyOk20
  · rename_i hb; cases h; rw [Nat.eq_of_beq_eq_true hb]; exact tyOk21
  · rename_i hb; cases h; rw [Nat.eq_of_beq_eq_true hb]; exact tyOk22
  · rename_i hb; cases h; rw [Nat.eq_of_beq_eq_true hb]; exact tyOk23
  · rename_i hb; cases h; rw [Nat.eq_of_beq_eq_true hb]; exact tyOk24
  · rename_i hb; cases h; rw [Nat.eq_of_beq_eq_true hb]; exact tyOk25
  · rename_i hb; cases h; rw [Nat.eq_of_beq_eq_true hb]; exact tyOk26
  · rename_i hb; cases h; rw [Nat.eq_of_beq_eq_true hb]; exact tyOk27
  · rename_i hb; cases h; rw [Nat.eq_of_beq_eq_true hb]; exact tyOk28
  · rename_i hb; cases h; rw [Nat.eq_of_beq_eq_true hb]; exact tyOk29
  · rename_i hb; cases h; rw [Nat.eq_of_beq_eq_true hb]; exact tyOk30
  · rename_i hb; cases h; rw [Nat.eq_of_beq_eq_true hb]; exact tyOk31
  · rename_i hb; cases h; rw [Nat.eq_of_beq_eq_true hb]; exact tyOk33
  · rename_i hb; cases h; rw [Nat.eq_of_beq_eq_true hb]; exact tyOk34
  · rename_i hb; cases h; rw [Nat.eq_of_beq_eq_true hb]; exact tyOk35
  · rename_i hb; cases h; rw [Nat.eq_of_beq_eq_true hb]; exact tyOk36
  · rename_i hb; cases h; rw [Nat.eq_of_beq_eq_true hb]; exact tyOk37
  · rename_i hb; cases h; rw [Nat.eq_of_beq_eq_true hb]; exact tyOk38
  · rename_i hb; cases h; rw [Nat.eq_of_beq_eq_true hb]; exact tyOk39
  · rename_i hb; cases h; rw [Nat.eq_of_beq_eq_true hb]; exact tyOk40
  · rename_i hb; cases h; rw [Nat.eq_of_beq_eq_true hb]; exact tyOk41
  · rename_i hb; cases h; rw [Nat.eq_of_beq_eq_true hb]; exact tyOk43
  · rename_i hb; cases h; rw [Nat.eq_of_beq_eq_true hb]; exact tyOk44
  · rename_i hb; cases h; rw [Nat.eq_of_beq_eq_true hb]; exact tyOk45
  · rename_i hb; cases h; rw [Nat.eq_of_beq_eq_true hb]; exact tyOk46
  · rename_i hb; cases h; rw [Nat.eq_of_beq_eq_true hb]; exact tyOk47
  · rename_i hb; cases h; rw [Nat.eq_of_beq_eq_true hb]; exact tyOk48
  · rename_i hb; cases h; rw [Nat.eq_of_beq_eq_true hb]; exact tyOk49
  · rename_i hb; cases h; rw [Nat.eq_of_beq_eq_true hb]; exact tyOk50
  · rename_i hb; cases h; rw [Nat.eq_of_beq_eq_true hb]; exact tyOk51
  · rename_i hb; cases h; rw [Nat.eq_of_beq_eq_true hb]; exact tyOk52
  · rename_i hb; cases h; rw [Nat.eq_of_beq_eq_true hb]; exact tyOk53
  · rename_i hb; cases h; rw [Nat.eq_of_beq_eq_true hb]; exact tyOk54
  · rename_i hb; cases h; rw [Nat.eq_of_beq_eq_true hb]; exact tyOk55
  · rename_i hb; cases h; rw [Nat.eq_of_beq_eq_true hb]; exact tyOk56
  · rename_i hb; cases h; rw [Nat.eq_of_beq_eq_true hb]; exact tyOk57
  · rename_i hb; cases h; rw [Nat.eq_of_beq_eq_true hb]; exact tyOk58
  · rename_i hb; cases h; rw [Nat.eq_of_beq_eq_true hb]; exact tyOk59
  · rename_i hb; cases h; rw [Nat.eq_of_beq_eq_true hb]; exact tyOk60
  · rename_i hb; cases h; rw [Nat.eq_of_beq_eq_true hb]; exact tyOk62
  · rename_i hb; cases h; rw [Nat.eq_of_beq_eq_true hb]; exact tyOk63
  · rename_i hb; cases h; rw [Nat.eq_of_beq_eq_true hb]; exact tyOk64
  · rename_i hb; cases h; rw [Nat.eq_of_beq_eq_true hb]; exact tyOk65
  · rename_i hb; cases h; rw [Nat.eq_of_beq_eq_true hb]; exact tyOk66
  · rename_i hb; cases h; rw [Nat.eq_of_beq_eq_true hb]; exact tyOk67
  · rename_i hb; cases h; rw [Nat.eq_of_beq_eq_true hb]; exact tyOk68
  · rename_i hb; cases h; rw [Nat.eq_of_beq_eq_true hb]; exact tyOk69
  · rename_i hb; cases h; rw [Nat.eq_of_beq_eq_true hb]; exact tyOk70
  · rename_i hb; cases h; rw [Nat.eq_of_beq_eq_true hb]; exact tyOk71
  · rename_i hb; cases h; rw [Nat.eq_of_beq_eq_true hb]; exact tyOk72
  · rename_i hb; cases h; rw [Nat.eq_of_beq_eq_true hb]; exact tyOk73
  · rename_i hb; cases h; rw [Nat.eq_of_beq_eq_true hb]; exact tyOk74
  · rename_i hb; cases h; rw [Nat.eq_of_beq_eq_true hb]; exact tyOk75
  · rename_i hb; cases h; rw [Nat.eq_of_beq_eq_true hb]; exact tyOk76
  · rename_i hb; cases h; rw [Nat.eq_of_beq_eq_true hb]; exact tyOk77
  · rename_i hb; cases h; rw [Nat.eq_of_beq_eq_true hb]; exact tyOk78
  · rename_i hb; cases h; rw [Nat.eq_of_beq_eq_true hb]; exact tyOk79
  · rename_i hb; cases h; rw [Nat.eq_of_beq_eq_true hb]; exact tyOk80
  · rename_i hb; cases h; rw [Nat.eq_of_beq_eq_true hb]; exact tyOk81
  · rename_i hb; cases h; rw [Nat.eq_of_beq_eq_true hb]; exact tyOk82
  · rename_i hb; cases h; rw [Nat.eq_of_beq_eq_true hb]; exact tyOk83
  · rename_i hb; cases h; rw [Nat.eq_of_beq_eq_true hb]; exact tyOk84
  · rename_i hb; cases h; rw [Nat.eq_of_beq_eq_true hb]; exact tyOk85
  · rename_i hb; cases h; rw [Nat.eq_of_beq_eq_true hb]; exact tyOk86
  · rename_i hb; cases h; rw [Nat.eq_of_beq_eq_true hb]; exact tyOk87
  · rename_i hb; cases h; rw [Nat.eq_of_beq_eq_true hb]; exact tyOk88
  · rename_i hb; cases h; rw [Nat.eq_of_beq_eq_true hb]; exact tyOk89
  · rename_i hb; cases h; rw [Nat.eq_of_beq_eq_true hb]; exact tyOk90
  · rename_i hb; cases h; rw [Nat.eq_of_beq_eq_true hb]; exact tyOk91
  · rename_i hb; cases h; rw [Nat.eq_of_beq_eq_true hb]; exact tyOk95
  · rename_i hb; cases h; rw [Nat.eq_of_beq_eq_true hb]; exact tyOk96
  · rename_i hb; cases h; rw [Nat.eq_of_beq_eq_true hb]; exact tyOk97
  · rename_i hb; cases h; rw [Nat.eq_of_beq_eq_true hb]; exact tyOk98
  · rename_i hb; cases h; rw [Nat.eq_of_beq_eq_true hb]; exact tyOk99
  · rename_i hb; cases h; rw [Nat.eq_of_beq_eq_true hb]; exact tyOk100
  · rename_i hb; cases h; rw [Nat.eq_of_beq_eq_true hb]; exact tyOk101
  · rename_i hb; cases h; rw [Nat.eq_of_beq_eq_true hb]; exact tyOk102
  · rename_i hb; cases h; rw [Nat.eq_of_beq_eq_true hb]; exact tyOk103
end Go.Sx.Tryd
end
section
namespace Go.Sx
/-- Temporaries, all but some unknown. -/
def mkT (n : Nat) (l : List (Nat × SVal)) : List SVal := l.foldl (fun ts p => setT ts p.1 p.2) (List.replicate n .junk)
theorem wrap_nonneg (a : Int) : 0 ≤ IntKind.u64.wrap a := by
  rw [IntKind.wrap_u64]; omega
theorem good_int {args : List SVal} {k : IntKind} {p : Prop} {post : Int → Prop} (hc : IdsLtL noId args) (h : p → ∃ x, post x) : PR.Good ⟨p, Int, post, fun z => .int k z⟩ args :=
  ⟨fun _ => trivial, fun E x b q hq => by simp [place] at hq, fun _ => hc, h⟩
theorem good_bool {args : List SVal} {p : Prop} {post : Bool → Prop} (hc : IdsLtL noId args) (h : p → ∃ x, post x) : PR.Good ⟨p, Bool, post, fun z => .bs z⟩ args :=
  ⟨fun _ => trivial, fun E x b q hq => by simp [place] at hq, fun _ => hc, h⟩
theorem good_row {args : List SVal} {k : IntKind} {n : Nat} {p : Prop} {post : List Int → Prop} (hc : IdsLtL noId args) (h : p → ∃ x, post x) : PR.Good ⟨p, List Int, post, fun z => .row k n z⟩ args :=
  ⟨fun _ => trivial, fun E x b q hq => by simp [place] at hq, fun _ => hc, h⟩
theorem c_nil {P : Program} {T : TypeId → Option TI} {glob : Nat → SVal} : ∀ p ∈ ([] : List (FuncId × PSpec)), Ctr P T glob p.1 p.2 := fun p hp => by cases hp
theorem c_cons {P : Program} {T : TypeId → Option TI} {glob : Nat → SVal} {g : FuncId} {s : PSpec} {l : List (FuncId × PSpec)} (h : Ctr P T glob g s) (hl : ∀ p ∈ l, Ctr P T glob p.1 p.2) : ∀ p ∈ (g, s) :: l, Ctr P T glob p.1 p.2 := fun p hp => by
  rcases List.mem_cons.1 hp with rfl | hp
  · exact h
  · exact hl p hp
theorem i_nil {P : Program} : ∀ p ∈ ([] : List (FuncId × Func)), CallOk P p.1 ∧ P.funcs[p.1]? = some p.2 ∧ regsOk (bodyOf p.2) = true := fun p hp => by cases hp
theorem i_cons {P : Program} {g : FuncId} {s : Func} {l : List (FuncId × Func)} (h : CallOk P g) (h1 : P.funcs[g]? = some s) (h2 : regsOk (bodyOf s) = true) (hl : ∀ p ∈ l, CallOk P p.1 ∧ P.funcs[p.1]? = some p.2 ∧ regsOk (bodyOf p.2) = true) :
    ∀ p ∈ (g, s) :: l, CallOk P p.1 ∧ P.funcs[p.1]? = some p.2 ∧ regsOk (bodyOf p.2) = true := fun p hp => by
  rcases List.mem_cons.1 hp with rfl | hp
  · exact ⟨h, h1, h2⟩
  · exact hl p hp
namespace Tryd
open Go.Proofs

def constants : List Int := [1, 32898, 9223372036854808714, 9223372039002292224, 32907, 2147483649, 9223372039002292353, 9223372036854808585, 138, 136, 2147516425, 2147483658, 2147516555, 9223372036854775947, 9223372036854808713, 9223372036854808579, 9223372036854808578, 9223372036854775936, 32778, 9223372039002259466, 9223372039002292353, 9223372036854808704, 2147483649, 9223372039002292232]
def way : List Int := [10, 7, 11, 17, 18, 3, 5, 16, 8, 21, 24, 4, 15, 23, 19, 13, 12, 2, 20, 14, 22, 9, 6, 1]
def offsets : List Int := [1, 3, 6, 10, 15, 21, 28, 36, 45, 55, 2, 14, 27, 41, 56, 8, 25, 43, 62, 18, 39, 61, 20, 44]
def glob : Nat → SVal
  | 0 => .rop (.row .u64 24 constants) (.l 0)
  | 1 => .rop (.row .i64 24 way) (.l 0)
  | 2 => .rop (.row .i64 24 offsets) (.l 0)
  | _ => .junk
theorem glob_ids : ∀ g, IdsLt noId (glob g) := fun g => by
  unfold glob
  split <;> trivial
theorem mixed : Tryd.prog.follows .mixedOrders = true := by rfl

def rotl (x k : Int) : Int :=
  binL .or .u64 (binL .shl .u64 x (binL .and .u64 (IntKind.u64.wrap k) 63)) (binL .shr .u64 x (binL .sub .u64 64 (binL .and .u64 (IntKind.u64.wrap k) 63)))
def s57 : PSpec := fun args => match args with
  | [.int .u64 x, .int .i64 k] => ⟨True, Int, fun z => z = rotl x k, fun z => .int .u64 z⟩
  | _ => PR.none
theorem c57 : Ctr Tryd.prog T glob 57 s57 := by
  refine ctr_of T_ok glob_ids mixed [] [] (by simp) (by simp) Tryd.func57 (by rfl) (by kernel_rfl) Tryd.call57 ?_ ?_
  · intro args; unfold s57; split <;> first | exact PR.good_none | exact good_int ⟨trivial, trivial, trivial⟩ fun _ => ⟨_, rfl⟩
  · intro P Ω hΩ hE hI hm args pr hs hp Q hQ
    unfold s57 at hs
    split at hs <;> subst hs <;> try (exact hp.elim)
    rename_i x k
    refine ⟨1000, ?_⟩
    cbv
    subst hΩ
    exact ⟨fun _ => wrap_nonneg _, fun _ => wrap_nonneg _, hQ _ _ _ _ rfl ⟨rfl, rfl⟩⟩

/-- What turns the lanes of a column. -/
def dcol (c : List Int) (x : Int) : Int := binL .xor .u64 (c.getD ((x + 4) % 5).toNat 0) (rotl (c.getD ((x + 1) % 5).toNat 0) 1)
def s56 : PSpec := fun args => match args with
  | [.int .i64 x, .rop (.row .u64 5 c) (.l 0)] => ⟨∀ _ : Unit, 0 ≤ x ∧ x < 5, Int, fun z => z = dcol c x, fun z => .int .u64 z⟩
  | _ => PR.none
theorem c56 : Ctr Tryd.prog T glob 56 s56 := by
  refine ctr_of T_ok glob_ids mixed [(57, s57)] [] (by simpa using c57) (by simp) Tryd.func56 (by rfl) (by kernel_rfl) Tryd.call56 ?_ ?_
  · intro args; unfold s56; split <;> first | exact PR.good_none | exact good_int ⟨trivial, trivial, trivial⟩ fun _ => ⟨_, rfl⟩
  · intro P Ω hΩ hE hI hm args pr hs hp Q hQ
    unfold s56 at hs
    split at hs <;> subst hs <;> try (exact hp.elim)
    rename_i x c
    refine ⟨1000, ?_⟩
    cbv
    obtain ⟨h0, h5⟩ := hp ()
    have r : ∀ a : Int, 0 ≤ a → a ≤ 4 → binL .rem .i64 (binL .add .i64 x a) 5 = (x + a) % 5 := fun a ha hb => by
      show (IntKind.i64.wrap (x + a)).tmod 5 = (x + a) % 5
      rw [IntKind.wrap_i64, Int.tmod_eq_emod_of_nonneg (by omega)]
      omega
    have r4 := r 4 (by omega) (by omega)
    have r1 := r 1 (by omega) (by omega)
    refine ⟨fun _ => ?_, fun _ => ?_, fun _ => ?_, fun _ => ?_, fun _ => trivial, fun z hz => ?_⟩
    · subst hΩ; simp only [Om.real, r4]; exact ⟨by omega, (by omega : (x + 4) % 5 < 5)⟩
    · subst hΩ; simp only [Om.real, r4]; omega
    · subst hΩ; simp only [Om.real, r1]; exact ⟨by omega, (by omega : (x + 1) % 5 < 5)⟩
    · subst hΩ; simp only [Om.real, r1]; omega
    · cbv
      refine hQ _ _ _ _ ?_ ⟨rfl, rfl⟩
      subst hΩ
      simp only [Om.real, r1] at hz
      simp only [Om.real, r4, hz]
      rfl
end Tryd
end Go.Sx
end
section
namespace Go.Sx.Tryd
open Go.Proofs

/-- The columns, of the first i lanes. -/
def colsUpTo (s : List Int) : Nat → List Int
  | 0 => List.replicate 5 0
  | i + 1 => (colsUpTo s i).set (i % 5) (binL .xor .u64 ((colsUpTo s i).getD (i % 5) 0) (s.getD i 0))
/-- The first i lanes turned by their columns. -/
def mixUpTo (s c : List Int) : Nat → List Int
  | 0 => s
  | i + 1 => (mixUpTo s c i).set i (binL .xor .u64 ((mixUpTo s c i).getD i 0) (dcol c (i % 5 : Nat)))
def mix (s : List Int) : List Int := mixUpTo s (colsUpTo s 25) 25
/-- The lane that is on its way, and the state, after i steps. -/
def moveUpTo (s : List Int) : Nat → Int × List Int
  | 0 => (s.getD 1 0, s)
  | i + 1 => ((moveUpTo s i).2.getD (way.getD i 0).toNat 0, (moveUpTo s i).2.set (way.getD i 0).toNat (rotl (moveUpTo s i).1 (offsets.getD i 0)))
def move (s : List Int) : List Int := (moveUpTo s 24).2

/-- A row of lanes, of which the first n are bent. -/
def bendRow (row : List Int) (y : Nat) (s : List Int) : Nat → List Int
  | 0 => s
  | n + 1 => (bendRow row y s n).set (y + n) (binL .xor .u64 (row.getD n 0) (binL .and .u64 (unL .xor .u64 (row.getD ((n + 1) % 5) 0)) (row.getD ((n + 2) % 5) 0)))
def bendUpTo (s : List Int) : Nat → List Int
  | 0 => s
  | q + 1 => bendRow (((bendUpTo s q).drop (5 * q)).take 5) (5 * q) (bendUpTo s q) 5
def bend (s : List Int) : List Int := bendUpTo s 5
theorem bendRow_len (row : List Int) (y : Nat) (s : List Int) : ∀ n, (bendRow row y s n).length = s.length
  | 0 => rfl
  | n + 1 => by simp only [bendRow, List.length_set]; exact bendRow_len row y s n
theorem bendUpTo_len (s : List Int) : ∀ q, (bendUpTo s q).length = s.length
  | 0 => rfl
  | q + 1 => by simp only [bendUpTo]; rw [bendRow_len]; exact bendUpTo_len s q

theorem mixUpTo_len (s c : List Int) : ∀ n, (mixUpTo s c n).length = s.length
  | 0 => rfl
  | n + 1 => by simp only [mixUpTo, List.length_set]; exact mixUpTo_len s c n
theorem moveUpTo_len (s : List Int) : ∀ n, (moveUpTo s n).2.length = s.length
  | 0 => rfl
  | n + 1 => by simp only [moveUpTo, List.length_set]; exact moveUpTo_len s n
/-- A round. -/
def turn (s : List Int) (i : Nat) : List Int := (bend (move (mix s))).set 0 (binL .xor .u64 ((bend (move (mix s))).getD 0 0) (constants.getD i 0))
def permUpTo (s : List Int) : Nat → List Int
  | 0 => s
  | i + 1 => turn (permUpTo s i) i
def permute (s : List Int) : List Int := permUpTo s 24
theorem turn_len (s : List Int) (i : Nat) : (turn s i).length = s.length := by
  simp only [turn, List.length_set, bend, bendUpTo_len, move, moveUpTo_len, mix, mixUpTo_len]
theorem permUpTo_len (s : List Int) : ∀ n, (permUpTo s n).length = s.length
  | 0 => rfl
  | n + 1 => by simp only [permUpTo]; rw [turn_len]; exact permUpTo_len s n

theorem rem5 (j : Nat) : binL .rem .i64 (Int.ofNat j) 5 = ((j % 5 : Nat) : Int) := by
  show (Int.ofNat j).tmod 5 = _
  rw [Int.ofNat_eq_natCast, Int.tmod_eq_emod_of_nonneg (Int.natCast_nonneg j)]
  omega
theorem inc64 (j : Nat) (h : j < 1000000000) : binL .add .i64 (Int.ofNat j) 1 = ((j + 1 : Nat) : Int) := by
  show IntKind.i64.wrap (Int.ofNat j + 1) = _
  rw [IntKind.wrap_i64, Int.ofNat_eq_natCast]
  omega
theorem remk (j k : Nat) (h : j < 1000000000) (hk : k < 1000000000) : binL .rem .i64 (binL .add .i64 (Int.ofNat j) (Int.ofNat k)) 5 = (((j + k) % 5 : Nat) : Int) := by
  show (IntKind.i64.wrap (Int.ofNat j + Int.ofNat k)).tmod 5 = _
  rw [IntKind.wrap_i64, Int.ofNat_eq_natCast, Int.ofNat_eq_natCast, Int.tmod_eq_emod_of_nonneg (by omega)]
  omega
theorem addk (j k : Nat) (h : j < 1000000000) (hk : k < 1000000000) : binL .add .i64 (Int.ofNat j) (Int.ofNat k) = ((j + k : Nat) : Int) := by
  show IntKind.i64.wrap (Int.ofNat j + Int.ofNat k) = _
  rw [IntKind.wrap_i64, Int.ofNat_eq_natCast, Int.ofNat_eq_natCast]
  omega
theorem lss_t {j n : Nat} (h : decide ((j : Int) < (n : Int)) = true) : j < n := by
  simp only [decide_eq_true_eq] at h
  omega
theorem lss_f {j n : Nat} (h : decide ((j : Int) < (n : Int)) = false) : n ≤ j := by
  simp only [decide_eq_false_iff_not] at h
  omega

theorem way_lt : ∀ p, p < 24 → 0 ≤ way.getD p 0 ∧ way.getD p 0 < 25 := by decide

def s14 : PSpec := fun args => match args with
  | [.row .u64 25 s] => ⟨∀ _ : Unit, s.length = 25, List Int, fun z => z = permute s, fun z => .row .u64 25 z⟩
  | _ => PR.none
noncomputable def i14 : List (FuncId × Func) := [(45, Tryd.f45), (46, Tryd.f46), (47, Tryd.f47)]
theorem c14 : Ctr Tryd.prog T glob 14 s14 := by
  refine ctr_of T_ok glob_ids mixed [(57, s57), (56, s56)] i14 (c_cons c57 (c_cons c56 c_nil)) (i_cons Tryd.call45 Tryd.func45 (by kernel_rfl) (i_cons Tryd.call46 Tryd.func46 (by kernel_rfl) (i_cons Tryd.call47 Tryd.func47 (by kernel_rfl) i_nil))) Tryd.func14 (by rfl) (by kernel_rfl) Tryd.call14 ?_ ?_
  · intro args; unfold s14; split <;> first | exact PR.good_none | exact good_row ⟨trivial, trivial⟩ fun _ => ⟨_, rfl⟩
  · intro P Ω hΩ hE hI hm args pr hs hp Q hQ
    unfold s14 at hs
    split at hs <;> subst hs <;> try (exact hp.elim)
    rename_i s
    refine ⟨1000, ?_⟩
    cbv
    refine loop_inv hE hI hm (fun x : Nat × List Int => (mkT 19 [(1, .ptr 0 (.l 0)), (2, .ptr 8 (.l 0)), (4, .int .i64 x.1)], [(8, .row .u64 25 (List.replicate 25 0)), (0, .row .u64 25 x.2)])) (fun x => x.1 ≤ 24 ∧ x.2 = permUpTo s x.1) (fun x => 24 - x.1) 0 ⟨(0, s), [], ⟨Nat.zero_le _, rfl⟩, Nat.le_refl _, by cbv; exact ⟨rfl, trivial⟩⟩ fun ⟨i, u⟩ hi => ⟨1000, ?_⟩
    cbv
    refine ⟨fun hc => ?_, fun hc => ?_⟩
    · cbv
      have hi24 : i < 24 := by
        subst hΩ
        have h1 : decide ((i : Int) < 24) = true := hc
        simp only [decide_eq_true_eq] at h1
        omega
      have hu : u.length = 25 := by
        have : u = permUpTo s i := hi.2
        rw [this, permUpTo_len]; exact hp ()
      refine loop_inv hE hI hm (fun x : Nat × List Int => (mkT 39 [(0, .ptr 0 (.l 0)), (2, .ptr 56 (.l 0)), (7, .ptr 0 (.l 0)), (8, .int .i64 x.1)], [(56, .row .u64 5 x.2), (8, .row .u64 25 (List.replicate 25 0)), (0, .row .u64 25 u)])) (fun x => x.1 ≤ 25 ∧ x.2 = colsUpTo u x.1) (fun x => 25 - x.1) 0 ⟨(0, List.replicate 5 0), [], ⟨Nat.zero_le _, rfl⟩, Nat.le_refl _, ?_⟩ fun ⟨j, c⟩ hj => ⟨1000, ?_⟩
      · cbv
        exact ⟨rfl, trivial⟩
      · cbv
        obtain ⟨hj1, hj2⟩ : j ≤ 25 ∧ c = colsUpTo u j := hj
        refine ⟨fun hd => ?_, fun hd => ?_⟩
        · cbv
          have hj25 : j < 25 := by subst hΩ; exact lss_t hd
          obtain ⟨c', hc'⟩ : ∃ c', c' = colsUpTo u (j + 1) := ⟨_, rfl⟩
          refine ⟨fun _ => ?_, fun _ => ?_, fun _ => ?_, fun _ => ?_, fun _ => ?_, fun _ => ?_, (j + 1, c'), [], ⟨hj25, hc'⟩, by simp only; omega, Nat.zero_le _, ?_⟩
          · exact ⟨Int.natCast_nonneg j, Int.ofNat_lt.2 hj25⟩
          · subst hΩ; simp only [Om.real, Int.ofNat_eq_natCast, Int.toNat_natCast]; omega
          · subst hΩ; simp only [Om.real, rem5]; exact ⟨Int.natCast_nonneg _, Int.ofNat_lt.2 (by show j % 5 < 5; omega)⟩
          · subst hΩ; simp only [Om.real, rem5, Int.toNat_natCast]; omega
          · subst hΩ; simp only [Om.real, rem5]; exact ⟨Int.natCast_nonneg _, Int.ofNat_lt.2 (by show j % 5 < 5; omega)⟩
          · subst hΩ; simp only [Om.real, rem5, Int.toNat_natCast]; omega
          · cbv
            subst hΩ
            refine ⟨inc64 j (by omega), ?_, trivial⟩
            simp only [Om.real, rem5, Int.toNat_natCast]
            rw [hc', hj2]
            rfl
        · cbv
          have hj25 : j = 25 := by
            have h1 : 25 ≤ j := by subst hΩ; exact lss_f hd
            omega
          have hcc : c = colsUpTo u 25 := by rw [hj2, hj25]
          refine loop_inv hE hI hm (fun x : Nat × List Int => (mkT 39 [(0, .ptr 0 (.l 0)), (2, .ptr 56 (.l 0)), (5, .fn 56 [] [.ptr 56 (.l 0)]), (23, .int .i64 x.1)], [(56, .row .u64 5 c), (8, .row .u64 25 (List.replicate 25 0)), (0, .row .u64 25 x.2)])) (fun x => x.1 ≤ 25 ∧ x.2 = mixUpTo u c x.1) (fun x => 25 - x.1) 0 ⟨(0, u), [], ⟨Nat.zero_le _, rfl⟩, Nat.le_refl _, ?_⟩ fun ⟨l, v⟩ hl => ⟨1000, ?_⟩
          · cbv
            exact ⟨rfl, trivial⟩
          · cbv
            obtain ⟨hl1, hl2⟩ : l ≤ 25 ∧ v = mixUpTo u c l := hl
            refine ⟨fun he => ?_, fun he => ?_⟩
            · cbv
              have hl25 : l < 25 := by subst hΩ; exact lss_t he
              obtain ⟨v', hv'⟩ : ∃ v', v' = mixUpTo u c (l + 1) := ⟨_, rfl⟩
              refine ⟨fun _ => ?_, fun _ => ?_, fun _ _ => ?_, fun z hz => ?_⟩
              · exact ⟨Int.natCast_nonneg l, Int.ofNat_lt.2 hl25⟩
              · subst hΩ; simp only [Om.real, Int.ofNat_eq_natCast, Int.toNat_natCast]; omega
              · subst hΩ; simp only [Om.real, rem5]; omega
              · cbv
                refine ⟨fun _ => ?_, fun _ => ?_, (l + 1, v'), [], ⟨hl25, hv'⟩, by simp only; omega, Nat.zero_le _, ?_⟩
                · exact ⟨Int.natCast_nonneg l, Int.ofNat_lt.2 hl25⟩
                · subst hΩ; simp only [Om.real, Int.ofNat_eq_natCast, Int.toNat_natCast]; omega
                · cbv
                  subst hΩ
                  refine ⟨inc64 l (by omega), ?_⟩
                  simp only [Om.real, rem5] at hz ⊢
                  rw [hv', hz, hl2]
                  rfl
            · cbv
              have hl25 : l = 25 := by
                have h1 : 25 ≤ l := by subst hΩ; exact lss_f he
                omega
              have hv : v = mix u := by rw [hl2, hl25, hcc]; rfl
              obtain ⟨l0, hl0⟩ : ∃ l0, l0 = v.getD 1 0 := ⟨_, rfl⟩
              refine loop_inv hE hI hm (fun x : Nat × Int × List Int => (mkT 29 [(0, .ptr 0 (.l 0)), (2, .int .u64 x.2.1), (9, .row .i64 24 way), (10, .int .i64 x.1)], [(8, .row .u64 25 (List.replicate 25 0)), (0, .row .u64 25 x.2.2)])) (fun x => x.1 ≤ 24 ∧ x.2 = moveUpTo (mix u) x.1) (fun x => 24 - x.1) 0 ⟨(0, l0, v), [], ⟨Nat.zero_le _, by rw [hl0, hv]; rfl⟩, Nat.le_refl _, ?_⟩ fun ⟨p, a, t⟩ hq => ⟨1000, ?_⟩
              · cbv
                subst hΩ
                exact ⟨hl0.symm, rfl, trivial⟩
              · cbv
                obtain ⟨hp1, hp2⟩ : p ≤ 24 ∧ (a, t) = moveUpTo (mix u) p := hq
                refine ⟨fun hf => ?_, fun hf => ?_⟩
                · cbv
                  have hp24 : p < 24 := by subst hΩ; exact lss_t hf
                  have hw := way_lt p hp24
                  obtain ⟨r', hr'⟩ : ∃ r', r' = moveUpTo (mix u) (p + 1) := ⟨_, rfl⟩
                  obtain ⟨a', t'⟩ := r'
                  refine ⟨fun _ => ?_, fun _ => ?_, fun _ => ?_, fun _ => ?_, fun _ => ?_, fun _ => trivial, fun z hz => ?_⟩
                  · exact ⟨Int.natCast_nonneg p, Int.ofNat_lt.2 hp24⟩
                  · subst hΩ; exact hw
                  · subst hΩ; show (way.getD p 0).toNat + 1 ≤ 25; omega
                  · exact ⟨Int.natCast_nonneg p, Int.ofNat_lt.2 hp24⟩
                  · subst hΩ; show p + 1 ≤ 24; omega
                  · cbv
                    refine ⟨fun _ => ?_, fun _ => ?_, (p + 1, a', t'), [], ⟨hp24, hr'⟩, by simp only; omega, Nat.zero_le _, ?_⟩
                    · subst hΩ; exact hw
                    · subst hΩ; show (way.getD p 0).toNat < 25; omega
                    · cbv
                      subst hΩ
                      have hr2 : (a', t') = (t.getD (way.getD p 0).toNat 0, t.set (way.getD p 0).toNat (rotl a (offsets.getD p 0))) := by
                        rw [hr']
                        show ((moveUpTo (mix u) p).2.getD (way.getD p 0).toNat 0, (moveUpTo (mix u) p).2.set (way.getD p 0).toNat (rotl (moveUpTo (mix u) p).1 (offsets.getD p 0))) = _
                        rw [← hp2]
                      simp only [Prod.mk.injEq] at hr2
                      refine ⟨hr2.1.symm, inc64 p (by omega), ?_⟩
                      rw [hr2.2, hz]
                      rfl
                · cbv
                  have hp24 : p = 24 := by
                    have h1 : 24 ≤ p := by subst hΩ; exact lss_f hf
                    omega
                  have ht : t = move (mix u) := by unfold move; rw [← hp24, ← hp2]
                  have htl : t.length = 25 := by rw [ht]; simp only [move, moveUpTo_len, mix, mixUpTo_len]; exact hu
                  refine loop_inv hE hI hm (fun x : Nat × Nat × List Int => (mkT 42 [(0, .ptr 0 (.l 0)), (2, .int .i64 x.2.1)], [(8, .row .u64 25 (List.replicate 25 0)), (0, .row .u64 25 x.2.2)])) (fun x => x.1 ≤ 5 ∧ x.2.1 = 5 * x.1 ∧ x.2.2 = bendUpTo t x.1) (fun x => 5 - x.1) 0 ⟨(0, 0, t), [], ⟨Nat.zero_le _, rfl, rfl⟩, Nat.le_refl _, ?_⟩ fun ⟨q, y, w⟩ hb => ⟨1000, ?_⟩
                  · cbv
                    exact ⟨rfl, trivial⟩
                  · cbv
                    obtain ⟨hq1, hy, hq2⟩ : q ≤ 5 ∧ y = 5 * q ∧ w = bendUpTo t q := hb
                    refine ⟨fun hg => ?_, fun hg => ?_⟩
                    · cbv
                      have hy25 : y < 25 := by subst hΩ; exact lss_t hg
                      have hq5 : q < 5 := by omega
                      refine ⟨fun _ => ?_, fun _ => ?_, fun _ => ?_, ?_⟩
                      · subst hΩ; exact ⟨Int.natCast_nonneg y, trivial, trivial, (show y ≤ 25 by omega), Nat.le_refl _, Nat.le_refl _⟩
                      · subst hΩ; exact ⟨by omega, (show 5 ≤ 25 - y by omega)⟩
                      · subst hΩ; show y + 5 ≤ 25; omega
                      · obtain ⟨r, hr⟩ : ∃ r, r = (w.drop y).take 5 := ⟨_, rfl⟩
                        refine loop_inv hE hI hm (fun x : Nat × List Int => (mkT 42 [(0, .ptr 0 (.l 0)), (2, .int .i64 (Int.ofNat y)), (3, .ptr 272 (.l 0)), (16, .row .u64 5 r), (17, .int .i64 x.1)], [(272, .row .u64 5 r), (8, .row .u64 25 (List.replicate 25 0)), (0, .row .u64 25 x.2)])) (fun x => x.1 ≤ 5 ∧ x.2 = bendRow r y w x.1) (fun x => 5 - x.1) 0 ⟨(0, w), [], ⟨Nat.zero_le _, rfl⟩, Nat.le_refl _, ?_⟩ fun ⟨e, g⟩ hz => ⟨1000, ?_⟩
                        · cbv
                          subst hΩ
                          exact ⟨hr.symm, rfl, hr.symm, trivial⟩
                        · cbv
                          obtain ⟨he1, he2⟩ : e ≤ 5 ∧ g = bendRow r y w e := hz
                          refine ⟨fun hh => ?_, fun hh => ?_⟩
                          · cbv
                            have he5 : e < 5 := by subst hΩ; exact lss_t hh
                            obtain ⟨g', hg'⟩ : ∃ g', g' = bendRow r y w (e + 1) := ⟨_, rfl⟩
                            have r1 := remk e 1 (by omega) (by omega)
                            have r2 := remk e 2 (by omega) (by omega)
                            have r3 := addk y e (by omega) (by omega)
                            have b1 : (e + 1) % 5 < 5 := Nat.mod_lt _ (by omega)
                            have b2 : (e + 2) % 5 < 5 := Nat.mod_lt _ (by omega)
                            have e1 : Int.ofNat 1 = 1 := rfl
                            have e2 : Int.ofNat 2 = 2 := rfl
                            rw [e1] at r1
                            rw [e2] at r2
                            refine ⟨fun _ => ?_, fun _ => ?_, fun _ => ?_, fun _ => ?_, fun _ => ?_, fun _ => ?_, fun _ => ?_, (e + 1, g'), [], ⟨he5, hg'⟩, by simp only; omega, Nat.zero_le _, ?_⟩
                            · exact ⟨Int.natCast_nonneg e, Int.ofNat_lt.2 he5⟩
                            · subst hΩ; simp only [Om.real, r1]; exact ⟨Int.natCast_nonneg _, Int.ofNat_lt.2 b1⟩
                            · subst hΩ; simp only [Om.real, r1, Int.toNat_natCast]; omega
                            · subst hΩ; simp only [Om.real, r2]; exact ⟨Int.natCast_nonneg _, Int.ofNat_lt.2 b2⟩
                            · subst hΩ; simp only [Om.real, r2, Int.toNat_natCast]; omega
                            · subst hΩ; simp only [Om.real, r3]; exact ⟨Int.natCast_nonneg _, Int.ofNat_lt.2 (show y + e < 25 by omega)⟩
                            · subst hΩ; simp only [Om.real, r3, Int.toNat_natCast]; omega
                            · cbv
                              subst hΩ
                              refine ⟨inc64 e (by omega), ?_⟩
                              simp only [Om.real, r1, r2, r3, Int.toNat_natCast]
                              rw [hg', he2]
                              rfl
                          · cbv
                            have he5 : e = 5 := by
                              have h1 : 5 ≤ e := by subst hΩ; exact lss_f hh
                              omega
                            obtain ⟨w', hw'⟩ : ∃ w', w' = bendUpTo t (q + 1) := ⟨_, rfl⟩
                            obtain ⟨y', hy'⟩ : ∃ y', y' = 5 * (q + 1) := ⟨_, rfl⟩
                            refine ⟨(q + 1, y', w'), [], ⟨hq5, hy', hw'⟩, by simp only; omega, Nat.zero_le _, ?_⟩
                            cbv
                            subst hΩ
                            refine ⟨?_, ?_⟩
                            · show binL .add .i64 (Int.ofNat y) (Int.ofNat 5) = Int.ofNat y'
                              rw [addk y 5 (by omega) (by omega), hy', hy]
                              rfl
                            · rw [hw', he2, he5, hr, hy, hq2]
                              rfl
                    · cbv
                      have hq5 : q = 5 := by
                        have h1 : 25 ≤ y := by subst hΩ; exact lss_f hg
                        omega
                      have hwb : w = bend (move (mix u)) := by rw [hq2, hq5, ht]; rfl
                      obtain ⟨u', hu'⟩ : ∃ u', u' = permUpTo s (i + 1) := ⟨_, rfl⟩
                      refine ⟨fun _ => ?_, fun _ => ?_, (i + 1, u'), [], ⟨hi24, hu'⟩, by simp only; omega, Nat.zero_le _, ?_⟩
                      · exact ⟨Int.natCast_nonneg i, Int.ofNat_lt.2 hi24⟩
                      · subst hΩ; show i + 1 ≤ 24; omega
                      · cbv
                        subst hΩ
                        refine ⟨inc64 i (by omega), ?_⟩
                        have hui : u = permUpTo s i := hi.2
                        show w.set 0 (binL .xor .u64 (w.getD 0 0) (constants.getD i 0)) = u'
                        rw [hu', hwb, hui]
                        rfl
    · cbv
      refine hQ _ _ _ _ ?_ ⟨rfl, rfl, rfl⟩
      have hi25 : i = 24 := by
        have h1 : 24 ≤ i := by subst hΩ; exact lss_f hc
        have h2 : i ≤ 24 := hi.1
        omega
      have h3 : u = permUpTo s i := hi.2
      show u = permute s
      rw [h3, hi25]
      rfl
end Go.Sx.Tryd
end
section
namespace Go.Sx.Tryd
open Go.Proofs

/-- A lane turned, by the reference's words. -/
def turned (a k : Int) : Int := if k = 0 then a else binL .or .u64 (binL .shl .u64 a k) (binL .shr .u64 a (64 - k))
def s50 : PSpec := fun args => match args with
  | [.int .u64 a, .int .i64 k] => ⟨∀ _ : Unit, 0 ≤ k ∧ k < 64, Int, fun z => z = turned a k, fun z => .int .u64 z⟩
  | _ => PR.none
theorem c50 : Ctr Tryd.prog T glob 50 s50 := by
  refine ctr_of T_ok glob_ids mixed [] [] c_nil i_nil Tryd.func50 (by rfl) (by kernel_rfl) Tryd.call50 ?_ ?_
  · intro args; unfold s50; split <;> first | exact PR.good_none | exact good_int ⟨trivial, trivial, trivial⟩ fun _ => ⟨_, rfl⟩
  · intro P Ω hΩ hE hI hm args pr hs hp Q hQ
    unfold s50 at hs
    split at hs <;> subst hs <;> try (exact hp.elim)
    rename_i a k
    obtain ⟨h0, h64⟩ := hp ()
    refine ⟨1000, ?_⟩
    cbv
    refine ⟨fun hk => ?_, fun hk => ?_⟩
    · cbv
      refine hQ _ _ _ _ ?_ ⟨rfl, rfl⟩
      subst hΩ
      have h1 : (k == 0) = true := hk
      show a = turned a k
      rw [eq_of_beq h1]
      rfl
    · cbv
      have hk' : k ≠ 0 := by
        subst hΩ
        have h1 : (k == 0) = false := hk
        simpa using h1
      have hsub : binL .sub .i64 64 k = 64 - k := by
        show IntKind.i64.wrap (64 - k) = 64 - k
        rw [IntKind.wrap_i64]
        omega
      refine ⟨fun _ => h0, fun _ => ?_, ?_⟩
      · subst hΩ; simp only [Om.real, hsub]; omega
      · refine hQ _ _ _ _ ?_ ⟨rfl, rfl⟩
        subst hΩ
        show binL .or .u64 (binL .shl .u64 a k) (binL .shr .u64 a (binL .sub .i64 64 k)) = turned a k
        rw [hsub, turned, if_neg hk']

/-- How far lanes are turned, by x + 5y. -/
def offs : List Int := [0, 1, 62, 28, 27, 36, 44, 6, 55, 20, 3, 10, 43, 25, 39, 41, 45, 15, 21, 8, 18, 2, 61, 56, 14]
def s48 : PSpec := fun args => match args with
  | [] => ⟨True, List Int, fun z => z = offs, fun z => .row .i64 25 z⟩
  | _ => PR.none
theorem c48 : Ctr Tryd.prog T glob 48 s48 := by
  refine ctr_of T_ok glob_ids mixed [] [] c_nil i_nil Tryd.func48 (by rfl) (by kernel_rfl) Tryd.call48 ?_ ?_
  · intro args; unfold s48; split <;> first | exact PR.good_none | exact good_row trivial fun _ => ⟨_, rfl⟩
  · intro P Ω hΩ hE hI hm args pr hs hp Q hQ
    unfold s48 at hs
    split at hs <;> subst hs <;> try (exact hp.elim)
    refine ⟨1000, ?_⟩
    cbv
    repeat (refine loop_again hE hI hm (n := 1000) ?_; cbv)
    refine hQ _ _ _ _ ?_ ⟨rfl, rfl, rfl⟩
    subst hΩ
    rfl
end Go.Sx.Tryd
end
section
namespace Go.Sx.Tryd
open Go.Proofs

/-- The register's next state. -/
def lfsr (r : Int) : Int := if r / 128 = 1 then binL .xor .i64 (r * 2 % 256) 113 else r * 2 % 256
def regAt : Nat → Int
  | 0 => 1
  | i + 1 => lfsr (regAt i)
def bitsUpTo : Nat → List Int
  | 0 => []
  | i + 1 => bitsUpTo i ++ [regAt i % 2]
theorem bitsUpTo_len : ∀ n, (bitsUpTo n).length = n
  | 0 => rfl
  | n + 1 => by simp [bitsUpTo, bitsUpTo_len n]
theorem reg_rng : ∀ i, i < 169 → 0 ≤ regAt i ∧ regAt i < 256 := by decide +kernel
def s49 : PSpec := fun args => match args with
  | [.int .i64 n] => ⟨∀ _ : Unit, n = 168, List Int × Nat, fun z => z.1 = bitsUpTo 168 ∧ 168 ≤ z.2, fun z => .fr .i64 z.1 z.2⟩
  | _ => PR.none
theorem c49 : Ctr Tryd.prog T glob 49 s49 := by
  refine ctr_of T_ok glob_ids mixed [] [] c_nil i_nil Tryd.func49 (by rfl) (by kernel_rfl) Tryd.call49 ?_ ?_
  · intro args; unfold s49; split
    · exact ⟨fun _ => trivial, fun E x b q hq => by simp [place] at hq; subst hq; exact ⟨Nat.le_refl _, by simp⟩, fun _ => ⟨trivial, trivial⟩, fun _ => ⟨(_, 168), rfl, Nat.le_refl _⟩⟩
    · exact PR.good_none
  · intro P Ω hΩ hE hI hm args pr hs hp Q hQ
    unfold s49 at hs
    split at hs <;> subst hs <;> try (exact hp.elim)
    rename_i n
    have hn : n = 168 := hp ()
    refine ⟨1000, ?_⟩
    cbv
    refine loop_inv hE hI hm (fun x : Nat × Nat × Int × List Int × Nat => (mkT 27 [(0, .int .i64 n), (3, .sl 32 1 (.l 0) (.s x.2.1) (.s x.2.2.2.2)), (4, .int .i64 x.2.2.1), (5, .int .i64 x.1)], [(32, .seq .i64 x.2.2.2.1)])) (fun x => x.1 ≤ 168 ∧ x.2.1 = x.1 ∧ x.2.2.1 = regAt x.1 ∧ x.2.2.2.1 = bitsUpTo x.1 ∧ x.2.1 ≤ x.2.2.2.2) (fun x => 168 - x.1) 1 ⟨(0, 0, 1, [], 0), [none], ⟨Nat.zero_le _, rfl, rfl, rfl, Nat.le_refl _⟩, by decide, ?_⟩ fun ⟨i, len, r, out, cap⟩ hi => ⟨1000, ?_⟩
    · cbv
    · cbv
      obtain ⟨hi1, hi2, hi3, hi4, hi5⟩ : i ≤ 168 ∧ len = i ∧ r = regAt i ∧ out = bitsUpTo i ∧ len ≤ cap := hi
      refine ⟨fun hc => ?_, fun hc => ?_⟩
      · cbv
        have hi168 : i < 168 := by
          subst hΩ hn
          simp only [Om.real, cmpL, decide_eq_true_eq, Int.ofNat_eq_natCast] at hc
          omega
        have hol : out.length = i := by rw [hi4, bitsUpTo_len]
        refine ⟨fun _ => (show (len + 1) * 8 ≤ 140737488355328 by omega), fun _ => ⟨(show 0 + len * 1 ≤ out.length by omega), (show 0 + 1 * 1 ≤ 1 by omega)⟩, fun cap' hcap => ?_⟩
        cbv
        obtain ⟨out', ho'⟩ : ∃ out', out' = bitsUpTo (i + 1) := ⟨_, rfl⟩
        obtain ⟨r', hr'⟩ : ∃ r', r' = regAt (i + 1) := ⟨_, rfl⟩
        obtain ⟨len', hl'⟩ : ∃ len', len' = len + 1 := ⟨_, rfl⟩
        have hrr := reg_rng i (by omega)
        rw [← hi3] at hrr
        have hmul : binL .rem .i64 (binL .mul .i64 r 2) 256 = r * 2 % 256 := by
          show (IntKind.i64.wrap (r * 2)).tmod 256 = _
          rw [IntKind.wrap_i64, Int.tmod_eq_emod_of_nonneg (by omega)]
          omega
        have hquo : binL .quo .i64 r 128 = r / 128 := by
          show IntKind.i64.wrap (r.tdiv 128) = _
          rw [IntKind.wrap_i64, Int.tdiv_eq_ediv_of_nonneg (by omega)]
          omega
        have hrem : binL .rem .i64 r 2 = r % 2 := by
          show r.tmod 2 = _
          exact Int.tmod_eq_emod_of_nonneg (by omega)
        have hout : (out.drop 0).take len ++ [r % 2] = out' := by
          rw [ho', bitsUpTo, List.drop_zero, List.take_of_length_le (by omega), hi4, hi3]
        have hreg : r' = lfsr r := by rw [hr', regAt, hi3]
        refine ⟨fun hd => ?_, fun hd => ?_⟩
        · cbv
          refine ⟨(i + 1, len', r', out', cap'), [some 96], ⟨hi168, by rw [hl', hi2], hr', ho', by rw [hl']; exact hcap⟩, by simp only; omega, by simp, ?_⟩
          cbv
          subst hΩ
          have hd' : (r / 128 == 1) = true := by rw [← hquo]; exact hd
          refine ⟨hl'.symm, ?_, inc64 i (by omega), ?_⟩
          · simp only [Om.real, hmul]
            rw [hreg, lfsr, if_pos (eq_of_beq hd')]
          · simp only [Om.real, hrem]
            exact hout
        · cbv
          refine ⟨(i + 1, len', r', out', cap'), [some 96], ⟨hi168, by rw [hl', hi2], hr', ho', by rw [hl']; exact hcap⟩, by simp only; omega, by simp, ?_⟩
          cbv
          subst hΩ
          have hd' : (r / 128 == 1) = false := by rw [← hquo]; exact hd
          refine ⟨hl'.symm, ?_, inc64 i (by omega), ?_⟩
          · simp only [Om.real, hmul]
            rw [hreg, lfsr, if_neg (by simpa using hd')]
          · simp only [Om.real, hrem]
            exact hout
      · cbv
        have hi168 : i = 168 := by
          subst hΩ hn
          simp only [Om.real, cmpL, decide_eq_false_iff_not, Int.ofNat_eq_natCast] at hc
          omega
        have hol : out.length = i := by rw [hi4, bitsUpTo_len]
        refine hQ (out, cap) _ _ _ ⟨by rw [hi4, hi168], by omega⟩ ?_
        refine ⟨rfl, rfl, ?_, ?_⟩
        · show 0 + len ≤ out.length
          omega
        · subst hΩ
          show out = (out.drop 0).take len
          rw [List.drop_zero, List.take_of_length_le (by omega)]
end Go.Sx.Tryd
end
section
namespace Go.Sx.Tryd
open Go.Proofs

/-- The reference's round. -/
def bCell (a c : List Int) (x y : Nat) : Int :=
  turned (binL .xor .u64 (binL .xor .u64 (a.getD (x + 5 * y) 0) (c.getD ((x + 4) % 5) 0)) (turned (c.getD ((x + 1) % 5) 0) 1)) (offs.getD (x + 5 * y) 0)
def bRow (a c : List Int) (y : Nat) (b : List Int) : Nat → List Int
  | 0 => b
  | x + 1 => (bRow a c y b x).set (y + 5 * ((2 * x + 3 * y) % 5)) (bCell a c x y)
def bAll (a c : List Int) : Nat → List Int
  | 0 => List.replicate 25 0
  | y + 1 => bRow a c y (bAll a c y) 5
def aCell (b : List Int) (x y : Nat) : Int :=
  binL .xor .u64 (b.getD (x + 5 * y) 0) (binL .sub .u64 (b.getD ((x + 2) % 5 + 5 * y) 0) (binL .and .u64 (b.getD ((x + 2) % 5 + 5 * y) 0) (b.getD ((x + 1) % 5 + 5 * y) 0)))
def aRow (b : List Int) (y : Nat) (a : List Int) : Nat → List Int
  | 0 => a
  | x + 1 => (aRow b y a x).set (x + 5 * y) (aCell b x y)
def aAll (b a : List Int) : Nat → List Int
  | 0 => a
  | y + 1 => aRow b y (aAll b a y) 5
def jAll (bits : List Int) (r : Nat) (a : List Int) : Nat → List Int
  | 0 => a
  | j + 1 => if bits.getD (7 * r + j) 0 = 1 then (jAll bits r a j).set 0 (binL .xor .u64 ((jAll bits r a j).getD 0 0) (binL .shl .u64 1 (binL .sub .u64 (binL .shl .u64 1 j) 1))) else jAll bits r a j
def refTurn (bits a : List Int) (r : Nat) : List Int := jAll bits r (aAll (bAll a (colsUpTo a 25) 5) a 5) 7
def refUpTo (bits a : List Int) : Nat → List Int
  | 0 => a
  | r + 1 => refTurn bits (refUpTo bits a r) r
def refPermute (a : List Int) : List Int := refUpTo (bitsUpTo 168) a 24

theorem aRow_len (b : List Int) (y : Nat) (a : List Int) : ∀ n, (aRow b y a n).length = a.length
  | 0 => rfl
  | n + 1 => by simp only [aRow, List.length_set]; exact aRow_len b y a n
theorem aAll_len (b a : List Int) : ∀ n, (aAll b a n).length = a.length
  | 0 => rfl
  | n + 1 => by simp only [aAll]; rw [aRow_len]; exact aAll_len b a n
theorem jAll_len (bits : List Int) (r : Nat) (a : List Int) : ∀ n, (jAll bits r a n).length = a.length
  | 0 => rfl
  | n + 1 => by
    simp only [jAll]
    split
    · rw [List.length_set]; exact jAll_len bits r a n
    · exact jAll_len bits r a n
theorem refUpTo_len (bits a : List Int) : ∀ n, (refUpTo bits a n).length = a.length
  | 0 => rfl
  | n + 1 => by simp only [refUpTo, refTurn]; rw [jAll_len, aAll_len]; exact refUpTo_len bits a n

theorem mulk (k j : Nat) (h : j < 1000000) (hk : k < 1000000) : binL .mul .i64 (Int.ofNat k) (Int.ofNat j) = ((k * j : Nat) : Int) := by
  show IntKind.i64.wrap (Int.ofNat k * Int.ofNat j) = _
  have h1 : Int.ofNat k * Int.ofNat j = ((k * j : Nat) : Int) := by simp
  have h2 : k * j ≤ 1000000 * 1000000 := Nat.mul_le_mul (by omega) (by omega)
  rw [h1, IntKind.wrap_i64]
  generalize k * j = q at *
  omega
theorem remn (n : Nat) : binL .rem .i64 (n : Int) 5 = ((n % 5 : Nat) : Int) := by
  show (n : Int).tmod 5 = _
  rw [Int.tmod_eq_emod_of_nonneg (Int.natCast_nonneg n)]
  omega
theorem addn (j k : Nat) (h : j < 1000000000) (hk : k < 1000000000) : binL .add .i64 (j : Int) (k : Int) = ((j + k : Nat) : Int) := addk j k h hk
theorem muln (k j : Nat) (h : j < 1000000) (hk : k < 1000000) : binL .mul .i64 (k : Int) (j : Int) = ((k * j : Nat) : Int) := mulk k j h hk

theorem offs_rng : ∀ k, k < 25 → 0 ≤ offs.getD k 0 ∧ offs.getD k 0 < 64 := by decide

def s15 : PSpec := fun args => match args with
  | [.row .u64 25 s] => ⟨∀ _ : Unit, s.length = 25, List Int, fun z => z = refPermute s, fun z => .row .u64 25 z⟩
  | _ => PR.none
theorem c15 : Ctr Tryd.prog T glob 15 s15 := by
  refine ctr_of T_ok glob_ids mixed [(48, s48), (49, s49), (50, s50)] [] (c_cons c48 (c_cons c49 (c_cons c50 c_nil))) i_nil Tryd.func15 (by rfl) (by kernel_rfl) Tryd.call15 ?_ ?_
  · intro args; unfold s15; split <;> first | exact PR.good_none | exact good_row ⟨trivial, trivial⟩ fun _ => ⟨_, rfl⟩
  · intro P Ω hΩ hE hI hm args pr hs hp Q hQ
    unfold s15 at hs
    split at hs <;> subst hs <;> try (exact hp.elim)
    rename_i s
    refine ⟨1000, ?_⟩
    cbv
    refine ⟨fun _ => trivial, fun os hos => ?_⟩
    cbv
    refine ⟨fun _ _ => rfl, fun ⟨bits, cap⟩ hbits => ?_⟩
    cbv
    have hos' : os = offs := hos
    have hb1 : bits = bitsUpTo 168 := hbits.1
    have hbl : bits.length = 168 := by rw [hb1, bitsUpTo_len]
    refine loop_inv hE hI hm (fun x : Nat × List Int => (mkT 150 [(1, .ptr 0 (.l 0)), (2, .ptr 8 (.l 0)), (3, .ptr 24 (.l 0)), (4, .sl 40 1 (.l 0) (.s (Ω.len bits)) (.s cap)), (5, .int .i64 x.1)], [(40, .seq .i64 bits), (24, .row .i64 25 os), (8, .row .u64 25 (List.replicate 25 0)), (0, .row .u64 25 x.2)])) (fun x => x.1 ≤ 24 ∧ x.2 = refUpTo bits s x.1) (fun x => 24 - x.1) 0 ⟨(0, s), [], ⟨Nat.zero_le _, rfl⟩, Nat.le_refl _, ?_⟩ fun ⟨r, a⟩ hr => ⟨1000, ?_⟩
    · cbv
      exact ⟨rfl, trivial⟩
    cbv
    obtain ⟨hr1, hr2⟩ : r ≤ 24 ∧ a = refUpTo bits s r := hr
    have hal : a.length = 25 := by rw [hr2, refUpTo_len]; exact hp ()
    refine ⟨fun hc => ?_, fun hc => ?_⟩
    · cbv
      have hr24 : r < 24 := by
        subst hΩ
        exact lss_t hc
      refine loop_inv hE hI hm (fun x : Nat × List Int => (mkT 150 [(1, .ptr 0 (.l 0)), (2, .ptr 8 (.l 0)), (3, .ptr 24 (.l 0)), (4, .sl 40 1 (.l 0) (.s (Ω.len bits)) (.s cap)), (5, .int .i64 (Int.ofNat r)), (6, .ptr 80 (.l 0)), (7, .int .i64 x.1)], [(80, .row .u64 5 x.2), (40, .seq .i64 bits), (24, .row .i64 25 os), (8, .row .u64 25 (List.replicate 25 0)), (0, .row .u64 25 a)])) (fun x => x.1 ≤ 25 ∧ x.2 = colsUpTo a x.1) (fun x => 25 - x.1) 0 ⟨(0, List.replicate 5 0), [], ⟨Nat.zero_le _, rfl⟩, Nat.le_refl _, ?_⟩ fun ⟨i, c⟩ hi => ⟨1000, ?_⟩
      · cbv
        exact ⟨rfl, trivial⟩
      cbv
      obtain ⟨hi1, hi2⟩ : i ≤ 25 ∧ c = colsUpTo a i := hi
      refine ⟨fun hd => ?_, fun hd => ?_⟩
      · cbv
        have hi25 : i < 25 := by subst hΩ; exact lss_t hd
        obtain ⟨c', hc'⟩ : ∃ c', c' = colsUpTo a (i + 1) := ⟨_, rfl⟩
        refine ⟨fun _ => ?_, fun _ => ?_, fun _ => ?_, fun _ => ?_, fun _ => ?_, fun _ => ?_, (i + 1, c'), [], ⟨hi25, hc'⟩, by simp only; omega, Nat.zero_le _, ?_⟩
        · subst hΩ; simp only [Om.real, rem5]; exact ⟨Int.natCast_nonneg _, Int.ofNat_lt.2 (by show i % 5 < 5; omega)⟩
        · subst hΩ; simp only [Om.real, rem5, Int.toNat_natCast]; omega
        · exact ⟨Int.natCast_nonneg i, Int.ofNat_lt.2 hi25⟩
        · subst hΩ; simp only [Om.real, Int.ofNat_eq_natCast, Int.toNat_natCast]; omega
        · subst hΩ; simp only [Om.real, rem5]; exact ⟨Int.natCast_nonneg _, Int.ofNat_lt.2 (by show i % 5 < 5; omega)⟩
        · subst hΩ; simp only [Om.real, rem5, Int.toNat_natCast]; omega
        · cbv
          subst hΩ
          refine ⟨inc64 i (by omega), ?_, trivial⟩
          simp only [Om.real, rem5, Int.toNat_natCast]
          rw [hc', hi2]
          rfl
      · cbv
        have hi25 : i = 25 := by
          have h1 : 25 ≤ i := by subst hΩ; exact lss_f hd
          omega
        have hcc : c = colsUpTo a 25 := by rw [hi2, hi25]
        refine loop_inv hE hI hm (fun x : Nat × List Int => (mkT 150 [(1, .ptr 0 (.l 0)), (2, .ptr 8 (.l 0)), (3, .ptr 24 (.l 0)), (4, .sl 40 1 (.l 0) (.s (Ω.len bits)) (.s cap)), (5, .int .i64 (Int.ofNat r)), (6, .ptr 80 (.l 0)), (8, .ptr 112 (.l 0)), (9, .int .i64 x.1)], [(112, .row .u64 25 x.2), (80, .row .u64 5 c), (40, .seq .i64 bits), (24, .row .i64 25 os), (8, .row .u64 25 (List.replicate 25 0)), (0, .row .u64 25 a)])) (fun x => x.1 ≤ 5 ∧ x.2 = bAll a c x.1) (fun x => 5 - x.1) 0 ⟨(0, List.replicate 25 0), [], ⟨Nat.zero_le _, rfl⟩, Nat.le_refl _, ?_⟩ fun ⟨y, b⟩ hy => ⟨1000, ?_⟩
        · cbv
          exact ⟨rfl, trivial⟩
        cbv
        obtain ⟨hy1, hy2⟩ : y ≤ 5 ∧ b = bAll a c y := hy
        refine ⟨fun he => ?_, fun he => ?_⟩
        · cbv
          have hy5 : y < 5 := by subst hΩ; exact lss_t he
          refine loop_inv hE hI hm (fun x : Nat × List Int => (mkT 150 [(1, .ptr 0 (.l 0)), (2, .ptr 8 (.l 0)), (3, .ptr 24 (.l 0)), (4, .sl 40 1 (.l 0) (.s (Ω.len bits)) (.s cap)), (5, .int .i64 (Int.ofNat r)), (6, .ptr 80 (.l 0)), (8, .ptr 112 (.l 0)), (9, .int .i64 (Int.ofNat y)), (10, .int .i64 x.1)], [(112, .row .u64 25 x.2), (80, .row .u64 5 c), (40, .seq .i64 bits), (24, .row .i64 25 os), (8, .row .u64 25 (List.replicate 25 0)), (0, .row .u64 25 a)])) (fun x => x.1 ≤ 5 ∧ x.2 = bRow a c y b x.1) (fun x => 5 - x.1) 0 ⟨(0, b), [], ⟨Nat.zero_le _, rfl⟩, Nat.le_refl _, ?_⟩ fun ⟨x, d⟩ hx => ⟨1000, ?_⟩
          · cbv
            exact ⟨rfl, trivial⟩
          cbv
          obtain ⟨hx1, hx2⟩ : x ≤ 5 ∧ d = bRow a c y b x := hx
          refine ⟨fun hf => ?_, fun hf => ?_⟩
          · cbv
            have hx5 : x < 5 := by subst hΩ; exact lss_t hf
            have m1 : binL .add .i64 (Int.ofNat x) (binL .mul .i64 5 (Int.ofNat y)) = ((x + 5 * y : Nat) : Int) := by
              rw [show (5 : Int) = Int.ofNat 5 from rfl, mulk 5 y (by omega) (by omega)]
              exact addn x (5 * y) (by omega) (by omega)
            have m2 := remk x 4 (by omega) (by omega)
            have m3 := remk x 1 (by omega) (by omega)
            rw [show Int.ofNat 4 = 4 from rfl] at m2
            rw [show Int.ofNat 1 = 1 from rfl] at m3
            have n2 : (x + 4) % 5 < 5 := Nat.mod_lt _ (by omega)
            have n3 : (x + 1) % 5 < 5 := Nat.mod_lt _ (by omega)
            refine ⟨fun _ => ?_, fun _ => ?_, fun _ => ?_, fun _ => ?_, fun _ => ?_, fun _ => ?_, fun _ _ => by decide, fun z hz => ?_⟩
            · subst hΩ; simp only [Om.real, m1]; exact ⟨Int.natCast_nonneg _, Int.ofNat_lt.2 (show x + 5 * y < 25 by omega)⟩
            · subst hΩ; simp only [Om.real, m1, Int.toNat_natCast]; omega
            · subst hΩ; simp only [Om.real, m2]; exact ⟨Int.natCast_nonneg _, Int.ofNat_lt.2 n2⟩
            · subst hΩ; simp only [Om.real, m2, Int.toNat_natCast]; omega
            · subst hΩ; simp only [Om.real, m3]; exact ⟨Int.natCast_nonneg _, Int.ofNat_lt.2 n3⟩
            · subst hΩ; simp only [Om.real, m3, Int.toNat_natCast]; omega
            · cbv
              have hof := offs_rng (x + 5 * y) (by omega)
              obtain ⟨d', hd'⟩ : ∃ d', d' = bRow a c y b (x + 1) := ⟨_, rfl⟩
              refine ⟨fun _ => ?_, fun _ => ?_, fun _ _ => ?_, fun z2 hz2 => ?_⟩
              · subst hΩ; simp only [Om.real, m1]; exact ⟨Int.natCast_nonneg _, Int.ofNat_lt.2 (show x + 5 * y < 25 by omega)⟩
              · subst hΩ; simp only [Om.real, m1, Int.toNat_natCast]; omega
              · subst hΩ; simp only [Om.real, m1, Int.toNat_natCast, hos']; exact hof
              · cbv
                have m4 : binL .add .i64 (Int.ofNat y) (binL .mul .i64 5 (binL .rem .i64 (binL .add .i64 (binL .mul .i64 2 (Int.ofNat x)) (binL .mul .i64 3 (Int.ofNat y))) 5)) = ((y + 5 * ((2 * x + 3 * y) % 5) : Nat) : Int) := by
                  rw [show (2 : Int) = Int.ofNat 2 from rfl, show (3 : Int) = Int.ofNat 3 from rfl, mulk 2 x (by omega) (by omega), mulk 3 y (by omega) (by omega), addn _ _ (by omega) (by omega), remn]
                  have : (2 * x + 3 * y) % 5 < 5 := Nat.mod_lt _ (by omega)
                  rw [show (5 : Int) = ((5 : Nat) : Int) from rfl, muln 5 _ (by omega) (by omega)]
                  exact addn y _ (by omega) (by omega)
                have n4 : (2 * x + 3 * y) % 5 < 5 := Nat.mod_lt _ (by omega)
                refine ⟨fun _ => ?_, fun _ => ?_, (x + 1, d'), [], ⟨hx5, hd'⟩, by simp only; omega, Nat.zero_le _, ?_⟩
                · subst hΩ; simp only [Om.real, m4]; exact ⟨Int.natCast_nonneg _, Int.ofNat_lt.2 (show y + 5 * ((2 * x + 3 * y) % 5) < 25 by omega)⟩
                · subst hΩ; simp only [Om.real, m4, Int.toNat_natCast]; omega
                · cbv
                  subst hΩ
                  refine ⟨inc64 x (by omega), ?_, trivial⟩
                  simp only [Om.real, m3, Int.toNat_natCast] at hz
                  simp only [Om.real, m1, m2, Int.toNat_natCast] at hz2
                  simp only [Om.real, m4, Int.toNat_natCast]
                  rw [hd', hx2, hz2, hz, hos']
                  rfl
          · cbv
            have hx5 : x = 5 := by
              have h1 : 5 ≤ x := by subst hΩ; exact lss_f hf
              omega
            obtain ⟨b', hb'⟩ : ∃ b', b' = bAll a c (y + 1) := ⟨_, rfl⟩
            refine ⟨(y + 1, b'), [], ⟨hy5, hb'⟩, by simp only; omega, Nat.zero_le _, ?_⟩
            cbv
            subst hΩ
            refine ⟨inc64 y (by omega), ?_, trivial⟩
            rw [hb', hx2, hx5, hy2]
            rfl
        · cbv
          have hy5 : y = 5 := by
            have h1 : 5 ≤ y := by subst hΩ; exact lss_f he
            omega
          have hbb : b = bAll a (colsUpTo a 25) 5 := by rw [hy2, hy5, hcc]
          refine loop_inv hE hI hm (fun x : Nat × List Int => (mkT 150 [(1, .ptr 0 (.l 0)), (2, .ptr 8 (.l 0)), (3, .ptr 24 (.l 0)), (4, .sl 40 1 (.l 0) (.s (Ω.len bits)) (.s cap)), (5, .int .i64 (Int.ofNat r)), (8, .ptr 112 (.l 0)), (12, .int .i64 x.1)], [(112, .row .u64 25 b), (40, .seq .i64 bits), (24, .row .i64 25 os), (8, .row .u64 25 (List.replicate 25 0)), (0, .row .u64 25 x.2)])) (fun x => x.1 ≤ 5 ∧ x.2 = aAll b a x.1) (fun x => 5 - x.1) 0 ⟨(0, a), [], ⟨Nat.zero_le _, rfl⟩, Nat.le_refl _, ?_⟩ fun ⟨p, u⟩ hq => ⟨1000, ?_⟩
          · cbv
            exact ⟨rfl, trivial⟩
          cbv
          obtain ⟨hp1, hp2⟩ : p ≤ 5 ∧ u = aAll b a p := hq
          refine ⟨fun hf => ?_, fun hf => ?_⟩
          · cbv
            have hp5 : p < 5 := by subst hΩ; exact lss_t hf
            refine loop_inv hE hI hm (fun x : Nat × List Int => (mkT 150 [(1, .ptr 0 (.l 0)), (2, .ptr 8 (.l 0)), (3, .ptr 24 (.l 0)), (4, .sl 40 1 (.l 0) (.s (Ω.len bits)) (.s cap)), (5, .int .i64 (Int.ofNat r)), (8, .ptr 112 (.l 0)), (12, .int .i64 (Int.ofNat p)), (13, .int .i64 x.1)], [(112, .row .u64 25 b), (40, .seq .i64 bits), (24, .row .i64 25 os), (8, .row .u64 25 (List.replicate 25 0)), (0, .row .u64 25 x.2)])) (fun x => x.1 ≤ 5 ∧ x.2 = aRow b p u x.1) (fun x => 5 - x.1) 0 ⟨(0, u), [], ⟨Nat.zero_le _, rfl⟩, Nat.le_refl _, ?_⟩ fun ⟨x, d⟩ hx => ⟨1000, ?_⟩
            · cbv
              exact ⟨rfl, trivial⟩
            cbv
            obtain ⟨hx1, hx2⟩ : x ≤ 5 ∧ d = aRow b p u x := hx
            refine ⟨fun hg => ?_, fun hg => ?_⟩
            · cbv
              have hx5 : x < 5 := by subst hΩ; exact lss_t hg
              have q5 : binL .mul .i64 5 (Int.ofNat p) = ((5 * p : Nat) : Int) := mulk 5 p (by omega) (by omega)
              have m1 := remk x 1 (by omega) (by omega)
              have m2 := remk x 2 (by omega) (by omega)
              rw [show Int.ofNat 1 = 1 from rfl] at m1
              rw [show Int.ofNat 2 = 2 from rfl] at m2
              have n1 : (x + 1) % 5 < 5 := Nat.mod_lt _ (by omega)
              have n2 : (x + 2) % 5 < 5 := Nat.mod_lt _ (by omega)
              have k0 : binL .add .i64 (Int.ofNat x) (binL .mul .i64 5 (Int.ofNat p)) = ((x + 5 * p : Nat) : Int) := by rw [q5]; exact addn x _ (by omega) (by omega)
              have k1 : binL .add .i64 (binL .rem .i64 (binL .add .i64 (Int.ofNat x) 1) 5) (binL .mul .i64 5 (Int.ofNat p)) = (((x + 1) % 5 + 5 * p : Nat) : Int) := by rw [q5, m1]; exact addn _ _ (by omega) (by omega)
              have k2 : binL .add .i64 (binL .rem .i64 (binL .add .i64 (Int.ofNat x) 2) 5) (binL .mul .i64 5 (Int.ofNat p)) = (((x + 2) % 5 + 5 * p : Nat) : Int) := by rw [q5, m2]; exact addn _ _ (by omega) (by omega)
              obtain ⟨d', hd'⟩ : ∃ d', d' = aRow b p u (x + 1) := ⟨_, rfl⟩
              refine ⟨fun _ => ?_, fun _ => ?_, fun _ => ?_, fun _ => ?_, fun _ => ?_, fun _ => ?_, fun _ => ?_, fun _ => ?_, fun _ => ?_, fun _ => ?_, (x + 1, d'), [], ⟨hx5, hd'⟩, by simp only; omega, Nat.zero_le _, ?_⟩
              · subst hΩ; simp only [Om.real, k1]; exact ⟨Int.natCast_nonneg _, Int.ofNat_lt.2 (show (x + 1) % 5 + 5 * p < 25 by omega)⟩
              · subst hΩ; simp only [Om.real, k1, Int.toNat_natCast]; omega
              · subst hΩ; simp only [Om.real, k0]; exact ⟨Int.natCast_nonneg _, Int.ofNat_lt.2 (show x + 5 * p < 25 by omega)⟩
              · subst hΩ; simp only [Om.real, k0, Int.toNat_natCast]; omega
              · subst hΩ; simp only [Om.real, k2]; exact ⟨Int.natCast_nonneg _, Int.ofNat_lt.2 (show (x + 2) % 5 + 5 * p < 25 by omega)⟩
              · subst hΩ; simp only [Om.real, k2, Int.toNat_natCast]; omega
              · subst hΩ; simp only [Om.real, k2]; exact ⟨Int.natCast_nonneg _, Int.ofNat_lt.2 (show (x + 2) % 5 + 5 * p < 25 by omega)⟩
              · subst hΩ; simp only [Om.real, k2, Int.toNat_natCast]; omega
              · subst hΩ; simp only [Om.real, k0]; exact ⟨Int.natCast_nonneg _, Int.ofNat_lt.2 (show x + 5 * p < 25 by omega)⟩
              · subst hΩ; simp only [Om.real, k0, Int.toNat_natCast]; omega
              · cbv
                subst hΩ
                refine ⟨inc64 x (by omega), ?_⟩
                simp only [Om.real, k0, k1, k2, Int.toNat_natCast]
                rw [hd', hx2]
                rfl
            · cbv
              have hx5 : x = 5 := by
                have h1 : 5 ≤ x := by subst hΩ; exact lss_f hg
                omega
              obtain ⟨u', hu'⟩ : ∃ u', u' = aAll b a (p + 1) := ⟨_, rfl⟩
              refine ⟨(p + 1, u'), [], ⟨hp5, hu'⟩, by simp only; omega, Nat.zero_le _, ?_⟩
              cbv
              subst hΩ
              refine ⟨inc64 p (by omega), ?_⟩
              rw [hu', hx2, hx5, hp2]
              rfl
          · cbv
            have hp5 : p = 5 := by
              have h1 : 5 ≤ p := by subst hΩ; exact lss_f hf
              omega
            have huu : u = aAll (bAll a (colsUpTo a 25) 5) a 5 := by rw [hp2, hp5, hbb]
            refine loop_inv hE hI hm (fun x : Nat × List Int => (mkT 150 [(1, .ptr 0 (.l 0)), (2, .ptr 8 (.l 0)), (3, .ptr 24 (.l 0)), (4, .sl 40 1 (.l 0) (.s (Ω.len bits)) (.s cap)), (5, .int .i64 (Int.ofNat r)), (15, .int .i64 x.1)], [(40, .seq .i64 bits), (24, .row .i64 25 os), (8, .row .u64 25 (List.replicate 25 0)), (0, .row .u64 25 x.2)])) (fun x => x.1 ≤ 7 ∧ x.2 = jAll bits r u x.1) (fun x => 7 - x.1) 0 ⟨(0, u), [], ⟨Nat.zero_le _, rfl⟩, Nat.le_refl _, ?_⟩ fun ⟨j, d⟩ hj => ⟨1000, ?_⟩
            · cbv
              exact ⟨rfl, trivial⟩
            cbv
            obtain ⟨hj1, hj2⟩ : j ≤ 7 ∧ d = jAll bits r u j := hj
            refine ⟨fun hg => ?_, fun hg => ?_⟩
            · cbv
              have hj7 : j < 7 := by subst hΩ; exact lss_t hg
              have k0 : binL .add .i64 (binL .mul .i64 7 (Int.ofNat r)) (Int.ofNat j) = ((7 * r + j : Nat) : Int) := by
                rw [show (7 : Int) = Int.ofNat 7 from rfl, mulk 7 r (by omega) (by omega)]
                exact addn _ _ (by omega) (by omega)
              obtain ⟨d', hd'⟩ : ∃ d', d' = jAll bits r u (j + 1) := ⟨_, rfl⟩
              refine ⟨fun _ => ?_, fun _ => ?_, fun hh => ?_, fun hh => ?_⟩
              · subst hΩ; simp only [Om.real, k0]; exact ⟨Int.natCast_nonneg _, Int.ofNat_lt.2 (show 7 * r + j < bits.length by omega)⟩
              · subst hΩ; simp only [Om.real, k0, Int.toNat_natCast]; omega
              · cbv
                refine ⟨fun _ => Int.natCast_nonneg j, fun _ => ?_, (j + 1, d'), [], ⟨hj7, hd'⟩, by simp only; omega, Nat.zero_le _, ?_⟩
                · subst hΩ; exact wrap_nonneg _
                · cbv
                  subst hΩ
                  simp only [Om.real, k0, Int.toNat_natCast, cmpL] at hh
                  refine ⟨inc64 j (by omega), ?_⟩
                  rw [hd', jAll, if_pos (by simpa using hh), hj2]
                  rfl
              · cbv
                refine ⟨(j + 1, d'), [], ⟨hj7, hd'⟩, by simp only; omega, Nat.zero_le _, ?_⟩
                cbv
                subst hΩ
                simp only [Om.real, k0, Int.toNat_natCast, cmpL] at hh
                refine ⟨inc64 j (by omega), ?_⟩
                rw [hd', jAll, if_neg (by simpa using hh)]
                exact hj2
            · cbv
              have hj7 : j = 7 := by
                have h1 : 7 ≤ j := by subst hΩ; exact lss_f hg
                omega
              obtain ⟨a', ha'⟩ : ∃ a', a' = refUpTo bits s (r + 1) := ⟨_, rfl⟩
              refine ⟨(r + 1, a'), [], ⟨hr24, ha'⟩, by simp only; omega, Nat.zero_le _, ?_⟩
              cbv
              subst hΩ
              refine ⟨inc64 r (by omega), ?_⟩
              rw [ha', refUpTo, refTurn, hj2, hj7, huu, hr2]
    · cbv
      have hr24 : r = 24 := by
        have h1 : 24 ≤ r := by subst hΩ; exact lss_f hc
        omega
      refine hQ _ _ _ _ ?_ ⟨rfl, rfl, rfl⟩
      show a = refPermute s
      rw [hr2, hr24, hb1]
      rfl
end Go.Sx.Tryd
end
section
namespace Go.Sx.Tryd
open Go.Proofs

theorem ofInt_wrap (n : Int) : BitVec.ofInt 64 (IntKind.u64.wrap n) = BitVec.ofInt 64 n := by
  rw [IntKind.wrap_u64]
  apply BitVec.eq_of_toInt_eq
  simp only [BitVec.toInt_ofInt]
  exact Int.emod_bmod ..
theorem wrap_nat (b : BitVec 64) : IntKind.u64.wrap b.toNat = b.toNat := by
  rw [IntKind.wrap_u64]
  have := b.isLt
  omega
theorem ofInt_nat (b : BitVec 64) : BitVec.ofInt 64 (b.toNat : Int) = b := by
  apply BitVec.eq_of_toNat_eq
  simp

theorem xor_eq (a b : Int) : binL .xor .u64 a b = (BitVec.ofInt 64 a ^^^ BitVec.ofInt 64 b).toNat := wrap_nat _
theorem and_eq (a b : Int) : binL .and .u64 a b = (BitVec.ofInt 64 a &&& BitVec.ofInt 64 b).toNat := wrap_nat _
theorem or_eq (a b : Int) : binL .or .u64 a b = (BitVec.ofInt 64 a ||| BitVec.ofInt 64 b).toNat := wrap_nat _
theorem sub_eq (a b : Int) : binL .sub .u64 a b = (BitVec.ofInt 64 a - BitVec.ofInt 64 b).toNat := by
  show IntKind.u64.wrap (a - b) = _
  rw [← wrap_nat]
  rw [IntKind.wrap_u64, IntKind.wrap_u64]
  have h : BitVec.ofInt 64 a - BitVec.ofInt 64 b = BitVec.ofInt 64 (a - b) := by
    apply BitVec.eq_of_toInt_eq
    simp [BitVec.toInt_sub, BitVec.toInt_ofInt]
  rw [h]
  simp [BitVec.toNat_ofInt]
  try omega
theorem not_eq (a : Int) : unL .xor .u64 a = (~~~ BitVec.ofInt 64 a).toNat := by
  show IntKind.u64.wrap ((BitVec.ofInt 64 (if IntKind.u64.signed then -1 else IntKind.u64.max) ^^^ BitVec.ofInt 64 a).toNat : Int) = _
  rw [wrap_nat]
  congr 1
theorem xor_assoc (a b c : Int) : binL .xor .u64 (binL .xor .u64 a b) c = binL .xor .u64 a (binL .xor .u64 b c) := by
  simp only [xor_eq, ofInt_nat, BitVec.xor_assoc]
theorem bend_eq (b n : Int) : binL .sub .u64 b (binL .and .u64 b n) = binL .and .u64 (unL .xor .u64 n) b := by
  simp only [sub_eq, and_eq, not_eq, ofInt_nat]
  generalize BitVec.ofInt 64 b = x
  generalize BitVec.ofInt 64 n = y
  have h1 : (x &&& y) &&& (~~~ y &&& x) = 0#64 := by
    ext i
    simp
    intros; simp_all
  have h2 : x = (x &&& y) + (~~~ y &&& x) := by
    rw [BitVec.add_eq_or_of_and_eq_zero _ _ h1]
    ext i
    simp
    cases x[i] <;> cases y[i] <;> rfl
  refine congrArg (fun z : BitVec 64 => (z.toNat : Int)) ?_
  calc x - (x &&& y) = ((x &&& y) + (~~~ y &&& x)) - (x &&& y) := by rw [← h2]
    _ = ~~~ y &&& x := by rw [BitVec.add_comm, BitVec.add_sub_cancel]
theorem turned_eq (a k : Int) (h0 : 0 < k) (h : k < 64) : turned a k = rotl a k := by
  have h1 : binL .and .u64 (IntKind.u64.wrap k) 63 = k := by
    rw [and_eq, ofInt_wrap]
    have : k = ((k.toNat : Nat) : Int) := by omega
    rw [this]
    have hk : k.toNat < 64 := by omega
    generalize k.toNat = m at hk
    have key : ∀ m, m < 64 → (BitVec.ofInt 64 ((m : Nat) : Int) &&& BitVec.ofInt 64 63).toNat = m := by decide
    rw [key m hk]
  have h2 : binL .sub .u64 64 k = 64 - k := by
    show IntKind.u64.wrap (64 - k) = _
    rw [IntKind.wrap_u64]
    omega
  unfold turned rotl
  rw [if_neg (by omega), h1, h2]
end Go.Sx.Tryd
end
section
namespace Go.Sx.Tryd
open Go.Proofs

section
variable (x rt : Int → Int → Int) (bd : Int → Int → Int → Int)
def colsG (s : List Int) : Nat → List Int
  | 0 => List.replicate 5 0
  | i + 1 => (colsG s i).set (i % 5) (x ((colsG s i).getD (i % 5) 0) (s.getD i 0))
def dcolG (c : List Int) (i : Nat) : Int := x (c.getD ((i + 4) % 5) 0) (rt (c.getD ((i + 1) % 5) 0) 1)
def mixG (s c : List Int) : Nat → List Int
  | 0 => s
  | i + 1 => (mixG s c i).set i (x ((mixG s c i).getD i 0) (dcolG x rt c (i % 5)))
def moveG (s : List Int) : Nat → Int × List Int
  | 0 => (s.getD 1 0, s)
  | i + 1 => ((moveG s i).2.getD (way.getD i 0).toNat 0, (moveG s i).2.set (way.getD i 0).toNat (rt (moveG s i).1 (offsets.getD i 0)))
def bendRowG (row : List Int) (y : Nat) (s : List Int) : Nat → List Int
  | 0 => s
  | n + 1 => (bendRowG row y s n).set (y + n) (bd (row.getD n 0) (row.getD ((n + 1) % 5) 0) (row.getD ((n + 2) % 5) 0))
def bendG (s : List Int) : Nat → List Int
  | 0 => s
  | q + 1 => bendRowG bd (((bendG s q).drop (5 * q)).take 5) (5 * q) (bendG s q) 5
def bCellG (a c : List Int) (i y : Nat) : Int :=
  let l := x (a.getD (i + 5 * y) 0) (x (c.getD ((i + 4) % 5) 0) (rt (c.getD ((i + 1) % 5) 0) 1))
  match i + 5 * y with
  | 0 => l
  | _ => rt l (offs.getD (i + 5 * y) 0)
def bRowG (a c : List Int) (y : Nat) (b : List Int) : Nat → List Int
  | 0 => b
  | i + 1 => (bRowG a c y b i).set (y + 5 * ((2 * i + 3 * y) % 5)) (bCellG x rt a c i y)
def bAllG (a c : List Int) : Nat → List Int
  | 0 => List.replicate 25 0
  | y + 1 => bRowG x rt a c y (bAllG a c y) 5
def aRowG (b : List Int) (y : Nat) (a : List Int) : Nat → List Int
  | 0 => a
  | i + 1 => (aRowG b y a i).set (i + 5 * y) (bd (b.getD (i + 5 * y) 0) (b.getD ((i + 1) % 5 + 5 * y) 0) (b.getD ((i + 2) % 5 + 5 * y) 0))
def aAllG (b a : List Int) : Nat → List Int
  | 0 => a
  | y + 1 => aRowG bd b y (aAllG b a y) 5
theorem stageA (x0 x1 x2 x3 x4 x5 x6 x7 x8 x9 x10 x11 x12 x13 x14 x15 x16 x17 x18 x19 x20 x21 x22 x23 x24 c0 c1 c2 c3 c4 : Int) :
    (moveG rt (mixG x rt [x0, x1, x2, x3, x4, x5, x6, x7, x8, x9, x10, x11, x12, x13, x14, x15, x16, x17, x18, x19, x20, x21, x22, x23, x24] [c0, c1, c2, c3, c4] 25) 24).2 = bAllG x rt [x0, x1, x2, x3, x4, x5, x6, x7, x8, x9, x10, x11, x12, x13, x14, x15, x16, x17, x18, x19, x20, x21, x22, x23, x24] [c0, c1, c2, c3, c4] 5 := by
  kernel_rfl
theorem stageB (x0 x1 x2 x3 x4 x5 x6 x7 x8 x9 x10 x11 x12 x13 x14 x15 x16 x17 x18 x19 x20 x21 x22 x23 x24 b0 b1 b2 b3 b4 b5 b6 b7 b8 b9 b10 b11 b12 b13 b14 b15 b16 b17 b18 b19 b20 b21 b22 b23 b24 : Int) :
    bendG bd [b0, b1, b2, b3, b4, b5, b6, b7, b8, b9, b10, b11, b12, b13, b14, b15, b16, b17, b18, b19, b20, b21, b22, b23, b24] 5 = aAllG bd [b0, b1, b2, b3, b4, b5, b6, b7, b8, b9, b10, b11, b12, b13, b14, b15, b16, b17, b18, b19, b20, b21, b22, b23, b24] [x0, x1, x2, x3, x4, x5, x6, x7, x8, x9, x10, x11, x12, x13, x14, x15, x16, x17, x18, x19, x20, x21, x22, x23, x24] 5 := by
  kernel_rfl
end
end Go.Sx.Tryd
end
section
namespace Go.Sx.Tryd
open Go.Proofs

def xo (a b : Int) : Int := binL .xor .u64 a b
def bdo (l a b : Int) : Int := binL .xor .u64 l (binL .and .u64 (unL .xor .u64 a) b)
theorem cols_is (s : List Int) : ∀ n, colsUpTo s n = colsG xo s n
  | 0 => rfl
  | n + 1 => by simp only [colsUpTo, colsG, cols_is s n, xo]
theorem dcol_is (c : List Int) (i : Nat) : dcol c (i : Nat) = dcolG xo rotl c i := by
  unfold dcol dcolG
  have h1 : (((i : Int) + 4) % 5).toNat = (i + 4) % 5 := by omega
  have h2 : (((i : Int) + 1) % 5).toNat = (i + 1) % 5 := by omega
  rw [h1, h2]
  rfl
theorem mix_is (s c : List Int) : ∀ n, mixUpTo s c n = mixG xo rotl s c n
  | 0 => rfl
  | n + 1 => by simp only [mixUpTo, mixG, mix_is s c n, dcol_is]; rfl
theorem move_is (s : List Int) : ∀ n, moveUpTo s n = moveG rotl s n
  | 0 => rfl
  | n + 1 => by simp only [moveUpTo, moveG, move_is s n]
theorem bendRow_is (row : List Int) (y : Nat) (s : List Int) : ∀ n, bendRow row y s n = bendRowG bdo row y s n
  | 0 => rfl
  | n + 1 => by simp only [bendRow, bendRowG, bendRow_is row y s n]; rfl
theorem bend_is (s : List Int) : ∀ n, bendUpTo s n = bendG bdo s n
  | 0 => rfl
  | n + 1 => by simp only [bendUpTo, bendG, bend_is s n, bendRow_is]
theorem bCell_is (a c : List Int) (i y : Nat) (hi : i < 5) (hy : y < 5) : bCell a c i y = bCellG xo rotl a c i y := by
  unfold bCell bCellG
  rw [turned_eq _ 1 (by omega) (by omega)]
  have hx : binL .xor .u64 (binL .xor .u64 (a.getD (i + 5 * y) 0) (c.getD ((i + 4) % 5) 0)) (rotl (c.getD ((i + 1) % 5) 0) 1) = xo (a.getD (i + 5 * y) 0) (xo (c.getD ((i + 4) % 5) 0) (rotl (c.getD ((i + 1) % 5) 0) 1)) := xor_assoc _ _ _
  rw [hx]
  have ho : ∀ m, m < 25 → 0 < m → 0 < offs.getD m 0 ∧ offs.getD m 0 < 64 := by decide
  have hm : i + 5 * y < 25 := by omega
  generalize i + 5 * y = m at *
  cases m with
  | zero => rfl
  | succ m =>
    obtain ⟨h1, h2⟩ := ho (m + 1) hm (by omega)
    exact turned_eq _ _ h1 h2
theorem bRow_is (a c : List Int) (y : Nat) (b : List Int) (hy : y < 5) : ∀ n, n ≤ 5 → bRow a c y b n = bRowG xo rotl a c y b n
  | 0, _ => rfl
  | n + 1, h => by simp only [bRow, bRowG, bRow_is a c y b hy n (by omega), bCell_is a c n y (by omega) hy]
theorem bAll_is (a c : List Int) : ∀ n, n ≤ 5 → bAll a c n = bAllG xo rotl a c n
  | 0, _ => rfl
  | n + 1, h => by simp only [bAll, bAllG, bAll_is a c n (by omega), bRow_is a c n _ (by omega) 5 (Nat.le_refl _)]
theorem aRow_is (b : List Int) (y : Nat) (a : List Int) : ∀ n, aRow b y a n = aRowG bdo b y a n
  | 0 => rfl
  | n + 1 => by
    simp only [aRow, aRowG, aRow_is b y a n, aCell, bend_eq]
    rfl
theorem aAll_is (b a : List Int) : ∀ n, aAll b a n = aAllG bdo b a n
  | 0 => rfl
  | n + 1 => by simp only [aAll, aAllG, aAll_is b a n, aRow_is]
theorem list5 {l : List Int} (h : l.length = 5) : ∃ a b c d e, l = [a, b, c, d, e] := by
  match l, h with
  | [a, b, c, d, e], _ => exact ⟨a, b, c, d, e, rfl⟩
theorem cols_len (s : List Int) : ∀ n, (colsUpTo s n).length = 5
  | 0 => rfl
  | n + 1 => by simp only [colsUpTo, List.length_set]; exact cols_len s n
theorem bRow_len (a c : List Int) (y : Nat) (b : List Int) : ∀ n, (bRow a c y b n).length = b.length
  | 0 => rfl
  | n + 1 => by simp only [bRow, List.length_set]; exact bRow_len a c y b n
theorem bAll_len (a c : List Int) : ∀ n, (bAll a c n).length = 25
  | 0 => rfl
  | n + 1 => by simp only [bAll, bRow_len]; exact bAll_len a c n
theorem stageA' (s c : List Int) (hs : s.length = 25) (hc : c.length = 5) : (moveUpTo (mixUpTo s c 25) 24).2 = bAll s c 5 := by
  rw [mix_is, move_is, bAll_is _ _ _ (Nat.le_refl _)]
  match s, hs, c, hc with
  | [x0, x1, x2, x3, x4, x5, x6, x7, x8, x9, x10, x11, x12, x13, x14, x15, x16, x17, x18, x19, x20, x21, x22, x23, x24], _, [c0, c1, c2, c3, c4], _ => exact stageA ..
theorem stageB' (s b : List Int) (hs : s.length = 25) (hb : b.length = 25) : bend b = aAll b s 5 := by
  rw [bend, bend_is, aAll_is]
  match s, hs, b, hb with
  | [x0, x1, x2, x3, x4, x5, x6, x7, x8, x9, x10, x11, x12, x13, x14, x15, x16, x17, x18, x19, x20, x21, x22, x23, x24], _, [b0, b1, b2, b3, b4, b5, b6, b7, b8, b9, b10, b11, b12, b13, b14, b15, b16, b17, b18, b19, b20, b21, b22, b23, b24], _ => exact stageB ..
/-- The constants, bit by bit. -/
def jConst (bits : List Int) (r : Nat) : Nat → Int
  | 0 => 0
  | j + 1 => if bits.getD (7 * r + j) 0 = 1 then binL .xor .u64 (jConst bits r j) (binL .shl .u64 1 (binL .sub .u64 (binL .shl .u64 1 j) 1)) else jConst bits r j
theorem xor_zero' (a b : Int) : binL .xor .u64 a (binL .xor .u64 0 b) = binL .xor .u64 a b := by
  simp only [xor_eq, ofInt_nat]
  simp
theorem set0 (a : List Int) (x y : Int) (ha : a.length = 25) : (a.set 0 x).set 0 y = a.set 0 y := by simp
theorem jAll_is (bits : List Int) (r : Nat) (a : List Int) (ha : a.length = 25) : ∀ n, (jAll bits r a n = a ∧ jConst bits r n = 0) ∨ (jAll bits r a n = a.set 0 (binL .xor .u64 (a.getD 0 0) (jConst bits r n)))
  | 0 => .inl ⟨rfl, rfl⟩
  | n + 1 => by
    simp only [jAll, jConst]
    split
    · right
      rcases jAll_is bits r a ha n with ⟨h1, h2⟩ | h1
      · rw [h1, h2, xor_zero']
      · rw [h1]
        have h3 : ∀ x, (a.set 0 x).getD 0 0 = x := fun x => by
          cases a with
          | nil => simp at ha
          | cons y l => rfl
        rw [h3, set0 _ _ _ ha, xor_assoc]
    · exact jAll_is bits r a ha n
theorem consts_are : ∀ r, r < 24 → jConst (bitsUpTo 168) r 7 = constants.getD r 0 ∧ constants.getD r 0 ≠ 0 := by decide +kernel
theorem turn_is (s : List Int) (r : Nat) (hs : s.length = 25) (hr : r < 24) : turn s r = refTurn (bitsUpTo 168) s r := by
  have h1 : bend (move (mix s)) = aAll (bAll s (colsUpTo s 25) 5) s 5 := by
    rw [move, mix, stageA' s _ hs (cols_len s 25)]
    exact stageB' s _ hs (bAll_len _ _ _)
  unfold turn refTurn
  rw [h1]
  obtain ⟨h2, h3⟩ := consts_are r hr
  rcases jAll_is (bitsUpTo 168) r (aAll (bAll s (colsUpTo s 25) 5) s 5) (by rw [aAll_len]; exact hs) 7 with ⟨h4, h5⟩ | h4
  · rw [h2] at h5; exact absurd h5 h3
  · rw [h4, h2]
theorem perm_upTo (s : List Int) (hs : s.length = 25) : ∀ n, n ≤ 24 → permUpTo s n = refUpTo (bitsUpTo 168) s n
  | 0, _ => rfl
  | n + 1, h => by
    simp only [permUpTo, refUpTo]
    rw [turn_is _ _ (by rw [permUpTo_len]; exact hs) (by omega), perm_upTo s hs n (by omega)]
/-- THE PLAIN LAW: what the program permutes is what the reference permutes. -/
theorem permute_is (s : List Int) (hs : s.length = 25) : permute s = refPermute s := perm_upTo s hs 24 (Nat.le_refl _)
end Go.Sx.Tryd
end
section
namespace Go.Sx.Tryd
open Go.Proofs
set_option maxRecDepth 100000 in
theorem zero_lane : (permute (List.replicate 25 0)).getD 0 0 = 17376452488221285863 := by kernel_rfl
def s16 : PSpec := fun args => match args with
  | [] => ⟨True, Bool, fun b => b = true, fun b => .bs b⟩
  | _ => PR.none
theorem c16 : Ctr Tryd.prog T glob 16 s16 := by
  refine ctr_of T_ok glob_ids mixed [(14, s14)] [] (c_cons c14 c_nil) i_nil Tryd.func16 (by rfl) (by kernel_rfl) Tryd.call16 ?_ ?_
  · intro args; unfold s16; split <;> first | exact PR.good_none | exact good_bool trivial fun _ => ⟨_, rfl⟩
  · intro P Ω hΩ hE hI hm args pr hs hp Q hQ
    unfold s16 at hs
    split at hs <;> subst hs <;> try (exact hp.elim)
    refine ⟨1000, ?_⟩
    cbv
    refine ⟨fun _ _ => rfl, fun z hz => ?_⟩
    cbv
    refine hQ _ _ _ _ ?_ rfl
    subst hΩ
    have h : z.getD 0 0 = 17376452488221285863 := by rw [hz]; exact zero_lane
    show (z.getD 0 0 == 17376452488221285863) = true
    rw [h]
    rfl
def s3 : PSpec := fun args => match args with
  | [.row .u64 25 s] => ⟨∀ _ : Unit, s.length = 25, Bool, fun b => b = true, fun b => .bs b⟩
  | _ => PR.none
theorem c3 : Ctr Tryd.prog T glob 3 s3 := by
  refine ctr_of T_ok glob_ids mixed [(14, s14), (15, s15), (16, s16)] [] (c_cons c14 (c_cons c15 (c_cons c16 c_nil))) i_nil Tryd.func3 (by rfl) (by kernel_rfl) Tryd.call3 ?_ ?_
  · intro args; unfold s3; split <;> first | exact PR.good_none | exact good_bool ⟨trivial, trivial⟩ fun _ => ⟨_, rfl⟩
  · intro P Ω hΩ hE hI hm args pr hs hp Q hQ
    unfold s3 at hs
    split at hs <;> subst hs <;> try (exact hp.elim)
    rename_i s
    refine ⟨1000, ?_⟩
    cbv
    refine ⟨fun _ _ => hp (), fun z hz => ?_⟩
    cbv
    refine ⟨fun _ _ => hp (), fun z' hz' => ?_⟩
    cbv
    have hz0 : z = z' := hz.trans ((permute_is s (hp ())).trans hz'.symm)
    refine ⟨fun he => ?_, fun he => ?_⟩
    · cbv
      refine ⟨fun _ => trivial, fun b hb => ?_⟩
      cbv
      have hb' : b = true := hb
      subst hb'
      refine hQ _ _ _ _ ?_ rfl
      rfl
    · exfalso
      subst hΩ hz0
      have h1 : (z == z) = false := he
      simp at h1
end Go.Sx.Tryd
end
section
set_option maxRecDepth 100000
namespace Go.Sx.Tryd
open Go.Proofs Go.RowKit Go.WideShapes Go.ChangeShapes
open Go.Proofs.YtnnkakbnmhahjaaDoor

def laid : List (String × DataW Unit) := [("chicory/keccak.constants", Rows.laid_chicory_keccak_constants), ("chicory/keccak.offsets", Rows.laid_chicory_keccak_offsets), ("chicory/keccak.way", Rows.laid_chicory_keccak_way)]
theorem globs_of_laid {W : World} (h : laidMetH Tryd.prog laid W) : Globs ⟨T, fun _ => none, fun _ => none, glob, Om.real, fun _ => none⟩ W := by
  have h' : laidMet Tryd.prog laid W := h
  obtain ⟨ps, hl, _⟩ := h'
  intro g
  show Den ρ0 (snapOf W) (glob g) (.pointer (some ⟨g, 0, none⟩))
  match g with
  | 0 => exact den_table (name := "chicory/keccak.constants") (t := 68) Tryd.underlying68 Tryd.underlying22 (by kernel_rfl) (by kernel_rfl) (by kernel_rfl) (by kernel_rfl) (by kernel_rfl) hl (List.mem_cons_self ..)
  | 1 => exact den_table (name := "chicory/keccak.way") (t := 86) Tryd.underlying86 Tryd.underlying3 (by kernel_rfl) (by kernel_rfl) (by kernel_rfl) (by kernel_rfl) (by kernel_rfl) hl (List.mem_cons_of_mem _ (List.mem_cons_of_mem _ (List.mem_cons_self ..)))
  | 2 => exact den_table (name := "chicory/keccak.offsets") (t := 86) Tryd.underlying86 Tryd.underlying3 (by kernel_rfl) (by kernel_rfl) (by kernel_rfl) (by kernel_rfl) (by kernel_rfl) hl (List.mem_cons_of_mem _ (List.mem_cons_self ..))
  | n + 3 => trivial

/-- A world that meets the premise. -/
noncomputable def laidWorld (os : Os) : World :=
  let w0 := World.holding Tryd.prog os ⟨#[], #[], []⟩
  let lay (xs : List Value) : Obj → Obj := fun
      | .cells _ t frozen => .cells xs.toArray t frozen
      | o => o
  { w0 with heap := ((w0.heap.modify 0 (lay (constants.map (.int .u64)))).modify 1 (lay (way.map (.int .i64)))).modify 2 (lay (offsets.map (.int .i64))) }
theorem laidWorld_met (os : Os) (args : Array Value) : laidMetH Tryd.prog laid ((laidWorld os).forCall (fun _ _ => 0) ⟨#[], args, []⟩).memory :=
  (laidMet_of_run' 8 (by kernel_rfl) (by kernel_rfl) : laidMet Tryd.prog laid _)
theorem own : ownKnob Tryd.prog.godebug = none := by kernel_rfl
theorem laidOut : laidOutB Tryd.prog = true := by kernel_rfl
end Go.Sx.Tryd
end
