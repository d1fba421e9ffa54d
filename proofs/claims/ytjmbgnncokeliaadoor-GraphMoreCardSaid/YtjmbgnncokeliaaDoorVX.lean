/- Facts about the program's types, as the rules need them. -/
import Derived.Test.YtjmbgnncokeliaaDoorVW
import Derived.Test.YtjmbgnncokeliaaDoorTie
import Derived.IntWalk
set_option maxRecDepth 100000
namespace Go.VC
open Go.RowKit Go.Proofs
theorem tyI :
    tinf Tryd.prog 2 = some ⟨1, 8, false, [Value.int IntKind.i64 0]⟩ ∧
    tinf Tryd.prog 3 = some ⟨1, 8, false, [Value.int IntKind.i64 0]⟩ ∧
    tinf Tryd.prog 4 = some ⟨1, 1, false, [Value.bool false]⟩ ∧
    tinf Tryd.prog 5 = some ⟨1, 1, false, [Value.int IntKind.u8 0]⟩ ∧
    tinf Tryd.prog 6 = some ⟨1, 1, false, [Value.int IntKind.u8 0]⟩ ∧
    tinf Tryd.prog 7 = some ⟨4, 24, true, [Value.int IntKind.i64 0, Value.int IntKind.i64 0, Value.bool false, Value.int IntKind.u8 0]⟩ ∧
    tinf Tryd.prog 8 = some ⟨4, 24, true, [Value.int IntKind.i64 0, Value.int IntKind.i64 0, Value.bool false, Value.int IntKind.u8 0]⟩ ∧
    tinf Tryd.prog 9 = some ⟨1, 16, false, [Value.string ⟨#[]⟩]⟩ ∧
    tinf Tryd.prog 10 = some ⟨1, 16, false, [Value.string ⟨#[]⟩]⟩ ∧
    tinf Tryd.prog 11 = some ⟨1, 16, false, [Value.string ⟨#[]⟩]⟩ ∧
    tinf Tryd.prog 12 = some ⟨1, 8, false, [Value.int IntKind.u64 0]⟩ ∧
    tinf Tryd.prog 13 = some ⟨2, 24, true, [Value.string ⟨#[]⟩, Value.int IntKind.u64 0]⟩ ∧
    tinf Tryd.prog 14 = some ⟨2, 24, true, [Value.string ⟨#[]⟩, Value.int IntKind.u64 0]⟩ ∧
    tinf Tryd.prog 15 = some ⟨1, 8, false, [Value.pointer none]⟩ ∧
    tinf Tryd.prog 16 = some ⟨1, 8, false, [Value.pointer none]⟩ ∧
    tinf Tryd.prog 17 = some ⟨1, 8, false, [Value.pointer none]⟩ ∧
    tinf Tryd.prog 18 = some ⟨1, 8, true, [Value.pointer none]⟩ ∧
    tinf Tryd.prog 19 = some ⟨1, 8, true, [Value.pointer none]⟩ ∧
    tinf Tryd.prog 20 = some ⟨1, 16, false, [Value.nilIface]⟩ ∧
    tinf Tryd.prog 21 = some ⟨1, 4, false, [Value.int IntKind.i32 0]⟩ ∧
    tinf Tryd.prog 22 = some ⟨1, 24, false, [Value.slice none 0 0]⟩ ∧
    tinf Tryd.prog 23 = some ⟨1, 24, false, [Value.slice none 0 0]⟩ ∧
    tinf Tryd.prog 24 = some ⟨1, 8, false, [Value.int IntKind.i64 0]⟩ ∧
    tinf Tryd.prog 28 = some ⟨1, 4, false, [Value.int IntKind.u32 0]⟩ ∧
    tinf Tryd.prog 30 = some ⟨1, 24, false, [Value.slice none 0 0]⟩ ∧
    tinf Tryd.prog 35 = some ⟨1, 24, false, [Value.slice none 0 0]⟩ ∧
    tinf Tryd.prog 45 = some ⟨1, 24, false, [Value.slice none 0 0]⟩ ∧
    tinf Tryd.prog 68 = some ⟨4, 32, true, [Value.int IntKind.i64 0, Value.int IntKind.i64 0, Value.int IntKind.i64 0, Value.int IntKind.i64 0]⟩ ∧
    tinf Tryd.prog 69 = some ⟨4, 32, true, [Value.int IntKind.i64 0, Value.int IntKind.i64 0, Value.int IntKind.i64 0, Value.int IntKind.i64 0]⟩ ∧
    tinf Tryd.prog 81 = some ⟨1, 24, false, [Value.slice none 0 0]⟩ ∧
    tinf Tryd.prog 82 = some ⟨5, 56, true, [Value.int IntKind.i64 0, Value.int IntKind.i64 0, Value.int IntKind.i64 0, Value.int IntKind.i64 0, Value.slice none 0 0]⟩ ∧
    tinf Tryd.prog 83 = some ⟨5, 56, true, [Value.int IntKind.i64 0, Value.int IntKind.i64 0, Value.int IntKind.i64 0, Value.int IntKind.i64 0, Value.slice none 0 0]⟩ ∧
    tinf Tryd.prog 84 = some ⟨1, 8, false, [Value.map none]⟩ ∧
    tinf Tryd.prog 87 = some ⟨1, 8, false, [Value.map none]⟩ ∧
    tinf Tryd.prog 88 = some ⟨3, 24, true, [Value.bool false, Value.int IntKind.i64 0, Value.int IntKind.i64 0]⟩ ∧
    tinf Tryd.prog 89 = some ⟨3, 24, true, [Value.bool false, Value.int IntKind.i64 0, Value.int IntKind.i64 0]⟩ ∧
    tinf Tryd.prog 96 = some ⟨3, 56, true, [Value.slice none 0 0, Value.slice none 0 0, Value.int IntKind.u32 0]⟩ ∧
    tinf Tryd.prog 97 = some ⟨3, 56, true, [Value.slice none 0 0, Value.slice none 0 0, Value.int IntKind.u32 0]⟩ ∧
    tinf Tryd.prog 105 = some ⟨1, 8, false, [Value.map none]⟩ ∧
    tinf Tryd.prog 108 = some ⟨1, 8, false, [Value.map none]⟩ ∧
    tinf Tryd.prog 110 = some ⟨1, 8, false, [Value.int IntKind.i64 0]⟩ ∧
    tinf Tryd.prog 113 = some ⟨8, 64, true, [Value.int IntKind.i64 0, Value.int IntKind.i64 0, Value.int IntKind.i64 0, Value.int IntKind.i64 0, Value.int IntKind.i64 0, Value.int IntKind.i64 0, Value.int IntKind.i64 0, Value.int IntKind.i64 0]⟩ ∧
    tinf Tryd.prog 114 = some ⟨8, 64, true, [Value.int IntKind.i64 0, Value.int IntKind.i64 0, Value.int IntKind.i64 0, Value.int IntKind.i64 0, Value.int IntKind.i64 0, Value.int IntKind.i64 0, Value.int IntKind.i64 0, Value.int IntKind.i64 0]⟩ ∧
    tinf Tryd.prog 122 = some ⟨1, 24, false, [Value.slice none 0 0]⟩ ∧
    tinf Tryd.prog 124 = some ⟨1, 8, false, [Value.map none]⟩ ∧
    tinf Tryd.prog 125 = some ⟨1, 24, false, [Value.slice none 0 0]⟩ ∧
    tinf Tryd.prog 126 = some ⟨1, 8, false, [Value.pointer none]⟩ ∧
    tinf Tryd.prog 127 = some ⟨9, 88, true, [Value.int IntKind.i64 0, Value.int IntKind.i64 0, Value.int IntKind.i64 0, Value.int IntKind.i64 0, Value.slice none 0 0, Value.int IntKind.i64 0, Value.int IntKind.i64 0, Value.int IntKind.i64 0, Value.int IntKind.i64 0]⟩ ∧
    tinf Tryd.prog 128 = some ⟨9, 88, true, [Value.int IntKind.i64 0, Value.int IntKind.i64 0, Value.int IntKind.i64 0, Value.int IntKind.i64 0, Value.slice none 0 0, Value.int IntKind.i64 0, Value.int IntKind.i64 0, Value.int IntKind.i64 0, Value.int IntKind.i64 0]⟩ ∧
    tinf Tryd.prog 137 = some ⟨2, 16, true, [Value.int IntKind.i64 0, Value.int IntKind.i64 0]⟩ ∧
    tinf Tryd.prog 138 = some ⟨2, 16, true, [Value.int IntKind.i64 0, Value.int IntKind.i64 0]⟩ ∧
    tinf Tryd.prog 148 = some ⟨1, 8, false, [Value.int IntKind.u64 0]⟩ ∧
    tinf Tryd.prog 156 = some ⟨3, 24, true, [Value.string ⟨#[]⟩, Value.bool false, Value.bool false]⟩ ∧
    tinf Tryd.prog 157 = some ⟨3, 24, true, [Value.string ⟨#[]⟩, Value.bool false, Value.bool false]⟩ ∧
    tinf Tryd.prog 158 = some ⟨30, 240, true, [Value.string ⟨#[]⟩, Value.bool false, Value.bool false, Value.string ⟨#[]⟩, Value.bool false, Value.bool false, Value.string ⟨#[]⟩, Value.bool false, Value.bool false, Value.string ⟨#[]⟩, Value.bool false, Value.bool false, Value.string ⟨#[]⟩, Value.bool false, Value.bool false, Value.string ⟨#[]⟩, Value.bool false, Value.bool false, Value.string ⟨#[]⟩, Value.bool false, Value.bool false, Value.string ⟨#[]⟩, Value.bool false, Value.bool false, Value.string ⟨#[]⟩, Value.bool false, Value.bool false, Value.string ⟨#[]⟩, Value.bool false, Value.bool false]⟩ ∧
    tinf Tryd.prog 160 = some ⟨1, 8, false, [Value.int IntKind.i64 0]⟩ ∧
    tinf Tryd.prog 167 = some ⟨1, 8, false, [Value.int IntKind.u64 0]⟩ :=
  ⟨by kernel_rfl,
   by kernel_rfl,
   by kernel_rfl,
   by kernel_rfl,
   by kernel_rfl,
   by kernel_rfl,
   by kernel_rfl,
   by kernel_rfl,
   by kernel_rfl,
   by kernel_rfl,
   by kernel_rfl,
   by kernel_rfl,
   by kernel_rfl,
   by kernel_rfl,
   by kernel_rfl,
   by kernel_rfl,
   by kernel_rfl,
   by kernel_rfl,
   by kernel_rfl,
   by kernel_rfl,
   by kernel_rfl,
   by kernel_rfl,
   by kernel_rfl,
   by kernel_rfl,
   by kernel_rfl,
   by kernel_rfl,
   by kernel_rfl,
   by kernel_rfl,
   by kernel_rfl,
   by kernel_rfl,
   by kernel_rfl,
   by kernel_rfl,
   by kernel_rfl,
   by kernel_rfl,
   by kernel_rfl,
   by kernel_rfl,
   by kernel_rfl,
   by kernel_rfl,
   by kernel_rfl,
   by kernel_rfl,
   by kernel_rfl,
   by kernel_rfl,
   by kernel_rfl,
   by kernel_rfl,
   by kernel_rfl,
   by kernel_rfl,
   by kernel_rfl,
   by kernel_rfl,
   by kernel_rfl,
   by kernel_rfl,
   by kernel_rfl,
   by kernel_rfl,
   by kernel_rfl,
   by kernel_rfl,
   by kernel_rfl,
   by kernel_rfl,
   by kernel_rfl⟩
theorem tyF :
    fieldT Tryd.prog 7 0 = some (0, 1, false) ∧
    fieldT Tryd.prog 7 1 = some (1, 1, false) ∧
    fieldT Tryd.prog 7 2 = some (2, 1, false) ∧
    fieldT Tryd.prog 7 3 = some (3, 1, false) ∧
    tkStruct Tryd.prog 7 = some [(0, 1, false), (1, 1, false), (2, 1, false), (3, 1, false)] ∧
    fieldT Tryd.prog 8 0 = some (0, 1, false) ∧
    fieldT Tryd.prog 8 1 = some (1, 1, false) ∧
    fieldT Tryd.prog 8 2 = some (2, 1, false) ∧
    fieldT Tryd.prog 8 3 = some (3, 1, false) ∧
    tkStruct Tryd.prog 8 = some [(0, 1, false), (1, 1, false), (2, 1, false), (3, 1, false)] ∧
    fieldT Tryd.prog 13 0 = some (0, 1, false) ∧
    fieldT Tryd.prog 13 1 = some (1, 1, false) ∧
    tkStruct Tryd.prog 13 = some [(0, 1, false), (1, 1, false)] ∧
    fieldT Tryd.prog 14 0 = some (0, 1, false) ∧
    fieldT Tryd.prog 14 1 = some (1, 1, false) ∧
    tkStruct Tryd.prog 14 = some [(0, 1, false), (1, 1, false)] ∧
    fieldT Tryd.prog 18 0 = some (0, 1, false) ∧
    tkStruct Tryd.prog 18 = some [(0, 1, false)] ∧
    fieldT Tryd.prog 19 0 = some (0, 1, false) ∧
    tkStruct Tryd.prog 19 = some [(0, 1, false)] ∧
    fieldT Tryd.prog 68 0 = some (0, 1, false) ∧
    fieldT Tryd.prog 68 1 = some (1, 1, false) ∧
    fieldT Tryd.prog 68 2 = some (2, 1, false) ∧
    fieldT Tryd.prog 68 3 = some (3, 1, false) ∧
    tkStruct Tryd.prog 68 = some [(0, 1, false), (1, 1, false), (2, 1, false), (3, 1, false)] ∧
    fieldT Tryd.prog 69 0 = some (0, 1, false) ∧
    fieldT Tryd.prog 69 1 = some (1, 1, false) ∧
    fieldT Tryd.prog 69 2 = some (2, 1, false) ∧
    fieldT Tryd.prog 69 3 = some (3, 1, false) ∧
    tkStruct Tryd.prog 69 = some [(0, 1, false), (1, 1, false), (2, 1, false), (3, 1, false)] ∧
    fieldT Tryd.prog 82 0 = some (0, 1, false) ∧
    fieldT Tryd.prog 82 1 = some (1, 1, false) ∧
    fieldT Tryd.prog 82 2 = some (2, 1, false) ∧
    fieldT Tryd.prog 82 3 = some (3, 1, false) ∧
    fieldT Tryd.prog 82 4 = some (4, 1, false) ∧
    tkStruct Tryd.prog 82 = some [(0, 1, false), (1, 1, false), (2, 1, false), (3, 1, false), (4, 1, false)] ∧
    fieldT Tryd.prog 83 0 = some (0, 1, false) ∧
    fieldT Tryd.prog 83 1 = some (1, 1, false) ∧
    fieldT Tryd.prog 83 2 = some (2, 1, false) ∧
    fieldT Tryd.prog 83 3 = some (3, 1, false) ∧
    fieldT Tryd.prog 83 4 = some (4, 1, false) ∧
    tkStruct Tryd.prog 83 = some [(0, 1, false), (1, 1, false), (2, 1, false), (3, 1, false), (4, 1, false)] ∧
    fieldT Tryd.prog 88 0 = some (0, 1, false) ∧
    fieldT Tryd.prog 88 1 = some (1, 1, false) ∧
    fieldT Tryd.prog 88 2 = some (2, 1, false) ∧
    tkStruct Tryd.prog 88 = some [(0, 1, false), (1, 1, false), (2, 1, false)] ∧
    fieldT Tryd.prog 89 0 = some (0, 1, false) ∧
    fieldT Tryd.prog 89 1 = some (1, 1, false) ∧
    fieldT Tryd.prog 89 2 = some (2, 1, false) ∧
    tkStruct Tryd.prog 89 = some [(0, 1, false), (1, 1, false), (2, 1, false)] ∧
    fieldT Tryd.prog 96 0 = some (0, 1, false) ∧
    fieldT Tryd.prog 96 1 = some (1, 1, false) ∧
    fieldT Tryd.prog 96 2 = some (2, 1, false) ∧
    tkStruct Tryd.prog 96 = some [(0, 1, false), (1, 1, false), (2, 1, false)] ∧
    fieldT Tryd.prog 97 0 = some (0, 1, false) ∧
    fieldT Tryd.prog 97 1 = some (1, 1, false) ∧
    fieldT Tryd.prog 97 2 = some (2, 1, false) ∧
    tkStruct Tryd.prog 97 = some [(0, 1, false), (1, 1, false), (2, 1, false)] ∧
    fieldT Tryd.prog 127 0 = some (0, 5, true) ∧
    fieldT Tryd.prog 127 1 = some (5, 4, true) ∧
    tkStruct Tryd.prog 127 = some [(0, 5, true), (5, 4, true)] ∧
    fieldT Tryd.prog 128 0 = some (0, 5, true) ∧
    fieldT Tryd.prog 128 1 = some (5, 4, true) ∧
    tkStruct Tryd.prog 128 = some [(0, 5, true), (5, 4, true)] ∧
    fieldT Tryd.prog 137 0 = some (0, 1, false) ∧
    fieldT Tryd.prog 137 1 = some (1, 1, false) ∧
    tkStruct Tryd.prog 137 = some [(0, 1, false), (1, 1, false)] ∧
    fieldT Tryd.prog 138 0 = some (0, 1, false) ∧
    fieldT Tryd.prog 138 1 = some (1, 1, false) ∧
    tkStruct Tryd.prog 138 = some [(0, 1, false), (1, 1, false)] ∧
    fieldT Tryd.prog 156 0 = some (0, 1, false) ∧
    fieldT Tryd.prog 156 1 = some (1, 1, false) ∧
    fieldT Tryd.prog 156 2 = some (2, 1, false) ∧
    tkStruct Tryd.prog 156 = some [(0, 1, false), (1, 1, false), (2, 1, false)] ∧
    fieldT Tryd.prog 157 0 = some (0, 1, false) ∧
    fieldT Tryd.prog 157 1 = some (1, 1, false) ∧
    fieldT Tryd.prog 157 2 = some (2, 1, false) ∧
    tkStruct Tryd.prog 157 = some [(0, 1, false), (1, 1, false), (2, 1, false)] :=
  ⟨by kernel_rfl,
   by kernel_rfl,
   by kernel_rfl,
   by kernel_rfl,
   by kernel_rfl,
   by kernel_rfl,
   by kernel_rfl,
   by kernel_rfl,
   by kernel_rfl,
   by kernel_rfl,
   by kernel_rfl,
   by kernel_rfl,
   by kernel_rfl,
   by kernel_rfl,
   by kernel_rfl,
   by kernel_rfl,
   by kernel_rfl,
   by kernel_rfl,
   by kernel_rfl,
   by kernel_rfl,
   by kernel_rfl,
   by kernel_rfl,
   by kernel_rfl,
   by kernel_rfl,
   by kernel_rfl,
   by kernel_rfl,
   by kernel_rfl,
   by kernel_rfl,
   by kernel_rfl,
   by kernel_rfl,
   by kernel_rfl,
   by kernel_rfl,
   by kernel_rfl,
   by kernel_rfl,
   by kernel_rfl,
   by kernel_rfl,
   by kernel_rfl,
   by kernel_rfl,
   by kernel_rfl,
   by kernel_rfl,
   by kernel_rfl,
   by kernel_rfl,
   by kernel_rfl,
   by kernel_rfl,
   by kernel_rfl,
   by kernel_rfl,
   by kernel_rfl,
   by kernel_rfl,
   by kernel_rfl,
   by kernel_rfl,
   by kernel_rfl,
   by kernel_rfl,
   by kernel_rfl,
   by kernel_rfl,
   by kernel_rfl,
   by kernel_rfl,
   by kernel_rfl,
   by kernel_rfl,
   by kernel_rfl,
   by kernel_rfl,
   by kernel_rfl,
   by kernel_rfl,
   by kernel_rfl,
   by kernel_rfl,
   by kernel_rfl,
   by kernel_rfl,
   by kernel_rfl,
   by kernel_rfl,
   by kernel_rfl,
   by kernel_rfl,
   by kernel_rfl,
   by kernel_rfl,
   by kernel_rfl,
   by kernel_rfl,
   by kernel_rfl,
   by kernel_rfl,
   by kernel_rfl,
   by kernel_rfl⟩
theorem tyX :
    indexT Tryd.prog 22 = some (.slice 4) ∧
    indexT Tryd.prog 23 = some (.slice 1) ∧
    indexT Tryd.prog 30 = some (.slice 1) ∧
    indexT Tryd.prog 35 = some (.slice 5) ∧
    indexT Tryd.prog 45 = some (.slice 1) ∧
    indexT Tryd.prog 81 = some (.slice 3) ∧
    indexT Tryd.prog 113 = some (.arr 8 1) ∧
    indexT Tryd.prog 114 = some (.arr 8 1) ∧
    indexT Tryd.prog 122 = some (.slice 1) ∧
    indexT Tryd.prog 125 = some (.slice 1) ∧
    indexT Tryd.prog 158 = some (.arr 10 3) :=
  ⟨by kernel_rfl,
   by kernel_rfl,
   by kernel_rfl,
   by kernel_rfl,
   by kernel_rfl,
   by kernel_rfl,
   by kernel_rfl,
   by kernel_rfl,
   by kernel_rfl,
   by kernel_rfl,
   by kernel_rfl⟩
theorem tyL :
    lenT Tryd.prog 9 = some true ∧
    lenT Tryd.prog 10 = some true ∧
    lenT Tryd.prog 11 = some true ∧
    lenT Tryd.prog 22 = some false ∧
    lenT Tryd.prog 23 = some false ∧
    lenT Tryd.prog 30 = some false ∧
    lenT Tryd.prog 35 = some false ∧
    lenT Tryd.prog 45 = some false ∧
    lenT Tryd.prog 81 = some false ∧
    lenT Tryd.prog 122 = some false ∧
    lenT Tryd.prog 125 = some false :=
  ⟨by kernel_rfl,
   by kernel_rfl,
   by kernel_rfl,
   by kernel_rfl,
   by kernel_rfl,
   by kernel_rfl,
   by kernel_rfl,
   by kernel_rfl,
   by kernel_rfl,
   by kernel_rfl,
   by kernel_rfl⟩
theorem tyK :
    intK Tryd.prog 2 = some .i64 ∧
    intK Tryd.prog 3 = some .i64 ∧
    intK Tryd.prog 5 = some .u8 ∧
    intK Tryd.prog 6 = some .u8 ∧
    intK Tryd.prog 12 = some .u64 ∧
    intK Tryd.prog 21 = some .i32 ∧
    intK Tryd.prog 24 = some .i64 ∧
    intK Tryd.prog 28 = some .u32 ∧
    intK Tryd.prog 110 = some .i64 ∧
    intK Tryd.prog 148 = some .u64 ∧
    intK Tryd.prog 160 = some .i64 ∧
    intK Tryd.prog 167 = some .u64 :=
  ⟨by kernel_rfl,
   by kernel_rfl,
   by kernel_rfl,
   by kernel_rfl,
   by kernel_rfl,
   by kernel_rfl,
   by kernel_rfl,
   by kernel_rfl,
   by kernel_rfl,
   by kernel_rfl,
   by kernel_rfl,
   by kernel_rfl⟩
theorem tyB :
    tk Tryd.prog 4 = .bool :=
  by kernel_rfl
theorem tyE :
    tkElem Tryd.prog 22 = some (69, ⟨4, 32, true, [Value.int IntKind.i64 0, Value.int IntKind.i64 0, Value.int IntKind.i64 0, Value.int IntKind.i64 0]⟩) ∧
    tkElem Tryd.prog 23 = some (28, ⟨1, 4, false, [Value.int IntKind.u32 0]⟩) ∧
    tkElem Tryd.prog 30 = some (3, ⟨1, 8, false, [Value.int IntKind.i64 0]⟩) ∧
    tkElem Tryd.prog 35 = some (83, ⟨5, 56, true, [Value.int IntKind.i64 0, Value.int IntKind.i64 0, Value.int IntKind.i64 0, Value.int IntKind.i64 0, Value.slice none 0 0]⟩) ∧
    tkElem Tryd.prog 45 = some (30, ⟨1, 24, false, [Value.slice none 0 0]⟩) ∧
    tkElem Tryd.prog 81 = some (89, ⟨3, 24, true, [Value.bool false, Value.int IntKind.i64 0, Value.int IntKind.i64 0]⟩) ∧
    tkElem Tryd.prog 122 = some (22, ⟨1, 24, false, [Value.slice none 0 0]⟩) ∧
    tkElem Tryd.prog 125 = some (126, ⟨1, 8, false, [Value.pointer none]⟩) :=
  ⟨by kernel_rfl,
   by kernel_rfl,
   by kernel_rfl,
   by kernel_rfl,
   by kernel_rfl,
   by kernel_rfl,
   by kernel_rfl,
   by kernel_rfl⟩
theorem tyM :
    isMapT Tryd.prog 84 = true ∧
    isMapT Tryd.prog 87 = true ∧
    mapT Tryd.prog 87 = some (.v (Value.bool false)) ∧
    isMapT Tryd.prog 105 = true ∧
    mapT Tryd.prog 105 = some (.v (Value.int IntKind.i64 0)) ∧
    isMapT Tryd.prog 108 = true ∧
    mapT Tryd.prog 108 = some (.mp []) ∧
    isMapT Tryd.prog 124 = true ∧
    mapT Tryd.prog 124 = some (.v (Value.pointer none)) :=
  ⟨by kernel_rfl,
   by kernel_rfl,
   by kernel_rfl,
   by kernel_rfl,
   by kernel_rfl,
   by kernel_rfl,
   by kernel_rfl,
   by kernel_rfl,
   by kernel_rfl⟩
theorem tyP :
    isXT Tryd.prog 2 = false ∧
    isXT Tryd.prog 3 = false ∧
    isXT Tryd.prog 4 = false ∧
    isXT Tryd.prog 5 = false ∧
    isXT Tryd.prog 6 = false ∧
    isXT Tryd.prog 7 = false ∧
    isXT Tryd.prog 8 = false ∧
    isXT Tryd.prog 9 = false ∧
    isXT Tryd.prog 10 = false ∧
    isXT Tryd.prog 11 = false ∧
    isXT Tryd.prog 12 = false ∧
    isXT Tryd.prog 13 = false ∧
    isXT Tryd.prog 14 = false ∧
    isXT Tryd.prog 15 = true ∧
    isXT Tryd.prog 16 = true ∧
    isXT Tryd.prog 17 = true ∧
    isXT Tryd.prog 18 = false ∧
    isXT Tryd.prog 19 = false ∧
    isXT Tryd.prog 20 = false ∧
    isXT Tryd.prog 21 = false ∧
    isXT Tryd.prog 22 = false ∧
    isXT Tryd.prog 23 = false ∧
    isXT Tryd.prog 24 = false ∧
    isXT Tryd.prog 25 = false ∧
    isXT Tryd.prog 26 = false ∧
    isXT Tryd.prog 27 = false ∧
    isXT Tryd.prog 28 = false ∧
    isXT Tryd.prog 29 = false ∧
    isXT Tryd.prog 30 = false ∧
    isXT Tryd.prog 31 = false ∧
    isXT Tryd.prog 32 = false ∧
    isXT Tryd.prog 33 = false ∧
    isXT Tryd.prog 34 = false ∧
    isXT Tryd.prog 35 = false ∧
    isXT Tryd.prog 36 = false ∧
    isXT Tryd.prog 37 = false ∧
    isXT Tryd.prog 38 = false ∧
    isXT Tryd.prog 39 = false ∧
    isXT Tryd.prog 40 = false ∧
    isXT Tryd.prog 41 = false ∧
    isXT Tryd.prog 42 = false ∧
    isXT Tryd.prog 43 = false ∧
    isXT Tryd.prog 44 = false ∧
    isXT Tryd.prog 45 = false ∧
    isXT Tryd.prog 46 = false ∧
    isXT Tryd.prog 47 = false ∧
    isXT Tryd.prog 48 = false ∧
    isXT Tryd.prog 49 = false ∧
    isXT Tryd.prog 50 = false ∧
    isXT Tryd.prog 51 = false ∧
    isXT Tryd.prog 52 = false ∧
    isXT Tryd.prog 53 = false ∧
    isXT Tryd.prog 54 = false ∧
    isXT Tryd.prog 55 = false ∧
    isXT Tryd.prog 56 = false ∧
    isXT Tryd.prog 57 = false ∧
    isXT Tryd.prog 58 = false ∧
    isXT Tryd.prog 59 = false ∧
    isXT Tryd.prog 60 = false ∧
    isXT Tryd.prog 61 = false ∧
    isXT Tryd.prog 62 = false ∧
    isXT Tryd.prog 63 = false ∧
    isXT Tryd.prog 64 = false ∧
    isXT Tryd.prog 65 = false ∧
    isXT Tryd.prog 66 = false ∧
    isXT Tryd.prog 67 = false ∧
    isXT Tryd.prog 68 = false ∧
    isXT Tryd.prog 69 = false ∧
    isXT Tryd.prog 70 = false ∧
    isXT Tryd.prog 71 = false ∧
    isXT Tryd.prog 72 = false ∧
    isXT Tryd.prog 73 = false ∧
    isXT Tryd.prog 74 = false ∧
    isXT Tryd.prog 75 = false ∧
    isXT Tryd.prog 76 = false ∧
    isXT Tryd.prog 77 = false ∧
    isXT Tryd.prog 78 = false ∧
    isXT Tryd.prog 79 = false ∧
    isXT Tryd.prog 80 = false ∧
    isXT Tryd.prog 81 = false ∧
    isXT Tryd.prog 82 = false ∧
    isXT Tryd.prog 83 = false ∧
    isXT Tryd.prog 84 = true ∧
    isXT Tryd.prog 85 = false ∧
    isXT Tryd.prog 86 = false ∧
    isXT Tryd.prog 87 = false ∧
    isXT Tryd.prog 88 = false ∧
    isXT Tryd.prog 89 = false ∧
    isXT Tryd.prog 90 = false ∧
    isXT Tryd.prog 91 = false ∧
    isXT Tryd.prog 92 = false ∧
    isXT Tryd.prog 93 = false ∧
    isXT Tryd.prog 94 = false ∧
    isXT Tryd.prog 95 = false ∧
    isXT Tryd.prog 96 = false ∧
    isXT Tryd.prog 97 = false ∧
    isXT Tryd.prog 98 = false ∧
    isXT Tryd.prog 99 = false ∧
    isXT Tryd.prog 100 = false ∧
    isXT Tryd.prog 101 = false ∧
    isXT Tryd.prog 102 = false ∧
    isXT Tryd.prog 103 = false ∧
    isXT Tryd.prog 104 = false ∧
    isXT Tryd.prog 105 = false ∧
    isXT Tryd.prog 106 = false ∧
    isXT Tryd.prog 107 = false ∧
    isXT Tryd.prog 108 = false ∧
    isXT Tryd.prog 109 = false ∧
    isXT Tryd.prog 110 = false ∧
    isXT Tryd.prog 111 = false ∧
    isXT Tryd.prog 112 = false ∧
    isXT Tryd.prog 113 = false ∧
    isXT Tryd.prog 114 = false ∧
    isXT Tryd.prog 115 = false ∧
    isXT Tryd.prog 116 = false ∧
    isXT Tryd.prog 117 = false ∧
    isXT Tryd.prog 118 = false ∧
    isXT Tryd.prog 119 = false ∧
    isXT Tryd.prog 120 = false ∧
    isXT Tryd.prog 121 = false ∧
    isXT Tryd.prog 122 = false ∧
    isXT Tryd.prog 123 = false ∧
    isXT Tryd.prog 124 = true ∧
    isXT Tryd.prog 125 = true ∧
    isXT Tryd.prog 126 = true ∧
    isXT Tryd.prog 127 = false ∧
    isXT Tryd.prog 128 = false ∧
    isXT Tryd.prog 129 = false ∧
    isXT Tryd.prog 130 = false ∧
    isXT Tryd.prog 131 = false ∧
    isXT Tryd.prog 132 = false ∧
    isXT Tryd.prog 133 = false ∧
    isXT Tryd.prog 134 = false ∧
    isXT Tryd.prog 135 = false ∧
    isXT Tryd.prog 136 = false ∧
    isXT Tryd.prog 137 = false ∧
    isXT Tryd.prog 138 = false ∧
    isXT Tryd.prog 139 = false ∧
    isXT Tryd.prog 140 = false ∧
    isXT Tryd.prog 141 = false ∧
    isXT Tryd.prog 142 = false ∧
    isXT Tryd.prog 143 = false ∧
    isXT Tryd.prog 144 = false ∧
    isXT Tryd.prog 145 = false ∧
    isXT Tryd.prog 146 = false ∧
    isXT Tryd.prog 147 = false ∧
    isXT Tryd.prog 148 = false ∧
    isXT Tryd.prog 149 = false ∧
    isXT Tryd.prog 150 = false ∧
    isXT Tryd.prog 151 = false ∧
    isXT Tryd.prog 152 = false ∧
    isXT Tryd.prog 153 = false ∧
    isXT Tryd.prog 154 = false ∧
    isXT Tryd.prog 155 = false ∧
    isXT Tryd.prog 156 = false ∧
    isXT Tryd.prog 157 = false ∧
    isXT Tryd.prog 158 = false ∧
    isXT Tryd.prog 159 = false ∧
    isXT Tryd.prog 160 = false ∧
    isXT Tryd.prog 161 = false ∧
    isXT Tryd.prog 162 = false ∧
    isXT Tryd.prog 163 = false ∧
    isXT Tryd.prog 164 = false ∧
    isXT Tryd.prog 165 = false ∧
    isXT Tryd.prog 166 = false ∧
    isXT Tryd.prog 167 = false ∧
    isXT Tryd.prog 168 = false ∧
    isXT Tryd.prog 169 = false ∧
    isXT Tryd.prog 170 = false ∧
    isXT Tryd.prog 171 = false ∧
    isXT Tryd.prog 172 = false ∧
    isXT Tryd.prog 173 = false ∧
    isXT Tryd.prog 174 = false ∧
    isXT Tryd.prog 175 = false ∧
    isXT Tryd.prog 176 = true ∧
    isXT Tryd.prog 177 = false ∧
    isXT Tryd.prog 178 = true ∧
    isXT Tryd.prog 179 = false ∧
    isXT Tryd.prog 180 = false ∧
    isXT Tryd.prog 181 = false ∧
    isXT Tryd.prog 182 = false ∧
    isXT Tryd.prog 183 = false ∧
    isXT Tryd.prog 184 = false ∧
    isXT Tryd.prog 185 = false :=
  ⟨by kernel_rfl,
   by kernel_rfl,
   by kernel_rfl,
   by kernel_rfl,
   by kernel_rfl,
   by kernel_rfl,
   by kernel_rfl,
   by kernel_rfl,
   by kernel_rfl,
   by kernel_rfl,
   by kernel_rfl,
   by kernel_rfl,
   by kernel_rfl,
   by kernel_rfl,
   by kernel_rfl,
   by kernel_rfl,
   by kernel_rfl,
   by kernel_rfl,
   by kernel_rfl,
   by kernel_rfl,
   by kernel_rfl,
   by kernel_rfl,
   by kernel_rfl,
   by kernel_rfl,
   by kernel_rfl,
   by kernel_rfl,
   by kernel_rfl,
   by kernel_rfl,
   by kernel_rfl,
   by kernel_rfl,
   by kernel_rfl,
   by kernel_rfl,
   by kernel_rfl,
   by kernel_rfl,
   by kernel_rfl,
   by kernel_rfl,
   by kernel_rfl,
   by kernel_rfl,
   by kernel_rfl,
   by kernel_rfl,
   by kernel_rfl,
   by kernel_rfl,
   by kernel_rfl,
   by kernel_rfl,
   by kernel_rfl,
   by kernel_rfl,
   by kernel_rfl,
   by kernel_rfl,
   by kernel_rfl,
   by kernel_rfl,
   by kernel_rfl,
   by kernel_rfl,
   by kernel_rfl,
   by kernel_rfl,
   by kernel_rfl,
   by kernel_rfl,
   by kernel_rfl,
   by kernel_rfl,
   by kernel_rfl,
   by kernel_rfl,
   by kernel_rfl,
   by kernel_rfl,
   by kernel_rfl,
   by kernel_rfl,
   by kernel_rfl,
   by kernel_rfl,
   by kernel_rfl,
   by kernel_rfl,
   by kernel_rfl,
   by kernel_rfl,
   by kernel_rfl,
   by kernel_rfl,
   by kernel_rfl,
   by kernel_rfl,
   by kernel_rfl,
   by kernel_rfl,
   by kernel_rfl,
   by kernel_rfl,
   by kernel_rfl,
   by kernel_rfl,
   by kernel_rfl,
   by kernel_rfl,
   by kernel_rfl,
   by kernel_rfl,
   by kernel_rfl,
   by kernel_rfl,
   by kernel_rfl,
   by kernel_rfl,
   by kernel_rfl,
   by kernel_rfl,
   by kernel_rfl,
   by kernel_rfl,
   by kernel_rfl,
   by kernel_rfl,
   by kernel_rfl,
   by kernel_rfl,
   by kernel_rfl,
   by kernel_rfl,
   by kernel_rfl,
   by kernel_rfl,
   by kernel_rfl,
   by kernel_rfl,
   by kernel_rfl,
   by kernel_rfl,
   by kernel_rfl,
   by kernel_rfl,
   by kernel_rfl,
   by kernel_rfl,
   by kernel_rfl,
   by kernel_rfl,
   by kernel_rfl,
   by kernel_rfl,
   by kernel_rfl,
   by kernel_rfl,
   by kernel_rfl,
   by kernel_rfl,
   by kernel_rfl,
   by kernel_rfl,
   by kernel_rfl,
   by kernel_rfl,
   by kernel_rfl,
   by kernel_rfl,
   by kernel_rfl,
   by kernel_rfl,
   by kernel_rfl,
   by kernel_rfl,
   by kernel_rfl,
   by kernel_rfl,
   by kernel_rfl,
   by kernel_rfl,
   by kernel_rfl,
   by kernel_rfl,
   by kernel_rfl,
   by kernel_rfl,
   by kernel_rfl,
   by kernel_rfl,
   by kernel_rfl,
   by kernel_rfl,
   by kernel_rfl,
   by kernel_rfl,
   by kernel_rfl,
   by kernel_rfl,
   by kernel_rfl,
   by kernel_rfl,
   by kernel_rfl,
   by kernel_rfl,
   by kernel_rfl,
   by kernel_rfl,
   by kernel_rfl,
   by kernel_rfl,
   by kernel_rfl,
   by kernel_rfl,
   by kernel_rfl,
   by kernel_rfl,
   by kernel_rfl,
   by kernel_rfl,
   by kernel_rfl,
   by kernel_rfl,
   by kernel_rfl,
   by kernel_rfl,
   by kernel_rfl,
   by kernel_rfl,
   by kernel_rfl,
   by kernel_rfl,
   by kernel_rfl,
   by kernel_rfl,
   by kernel_rfl,
   by kernel_rfl,
   by kernel_rfl,
   by kernel_rfl,
   by kernel_rfl,
   by kernel_rfl,
   by kernel_rfl,
   by kernel_rfl,
   by kernel_rfl,
   by kernel_rfl,
   by kernel_rfl,
   by kernel_rfl,
   by kernel_rfl,
   by kernel_rfl,
   by kernel_rfl,
   by kernel_rfl,
   by kernel_rfl,
   by kernel_rfl⟩
theorem tyQ :
    isXB Tryd.prog 7 = false ∧
    isXB Tryd.prog 8 = false ∧
    isXB Tryd.prog 13 = false ∧
    isXB Tryd.prog 14 = false ∧
    isXB Tryd.prog 18 = false ∧
    isXB Tryd.prog 19 = false ∧
    isXB Tryd.prog 68 = false ∧
    isXB Tryd.prog 69 = false ∧
    isXB Tryd.prog 82 = true ∧
    isXB Tryd.prog 83 = true ∧
    isXB Tryd.prog 88 = false ∧
    isXB Tryd.prog 89 = false ∧
    isXB Tryd.prog 96 = true ∧
    isXB Tryd.prog 97 = true ∧
    isXB Tryd.prog 127 = true ∧
    isXB Tryd.prog 128 = true ∧
    isXB Tryd.prog 137 = false ∧
    isXB Tryd.prog 138 = false ∧
    isXB Tryd.prog 156 = false ∧
    isXB Tryd.prog 157 = false :=
  ⟨by kernel_rfl,
   by kernel_rfl,
   by kernel_rfl,
   by kernel_rfl,
   by kernel_rfl,
   by kernel_rfl,
   by kernel_rfl,
   by kernel_rfl,
   by kernel_rfl,
   by kernel_rfl,
   by kernel_rfl,
   by kernel_rfl,
   by kernel_rfl,
   by kernel_rfl,
   by kernel_rfl,
   by kernel_rfl,
   by kernel_rfl,
   by kernel_rfl,
   by kernel_rfl,
   by kernel_rfl⟩
end Go.VC
