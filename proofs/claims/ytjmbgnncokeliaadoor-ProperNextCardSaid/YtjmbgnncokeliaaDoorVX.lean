/- Facts about the program's types, as the rules need them. -/
import Derived.Test.YtjmbgnncokeliaaDoorVW
import Derived.Test.YtjmbgnncokeliaaDoorTie
import Derived.IntWalk
set_option maxRecDepth 100000
namespace Go.VC
open Go.RowKit Go.Proofs
theorem tyI :
    tinf Tryd.prog 2 = some ⟨1, 8, false, [Value.int IntKind.i64 0]⟩ ∧
    tinf Tryd.prog 3 = some ⟨1, 8, false, [Value.int IntKind.i64 0]⟩ ∧
    tinf Tryd.prog 4 = some ⟨1, 1, false, [Value.bool false]⟩ ∧
    tinf Tryd.prog 5 = some ⟨1, 1, false, [Value.int IntKind.u8 0]⟩ ∧
    tinf Tryd.prog 6 = some ⟨1, 1, false, [Value.int IntKind.u8 0]⟩ ∧
    tinf Tryd.prog 7 = some ⟨4, 24, true, [Value.int IntKind.i64 0, Value.int IntKind.i64 0, Value.bool false, Value.int IntKind.u8 0]⟩ ∧
    tinf Tryd.prog 8 = some ⟨4, 24, true, [Value.int IntKind.i64 0, Value.int IntKind.i64 0, Value.bool false, Value.int IntKind.u8 0]⟩ ∧
    tinf Tryd.prog 9 = some ⟨1, 16, false, [Value.string ⟨#[]⟩]⟩ ∧
    tinf Tryd.prog 10 = some ⟨1, 16, false, [Value.string ⟨#[]⟩]⟩ ∧
    tinf Tryd.prog 11 = some ⟨1, 16, false, [Value.string ⟨#[]⟩]⟩ ∧
    tinf Tryd.prog 12 = some ⟨1, 8, false, [Value.int IntKind.u64 0]⟩ ∧
    tinf Tryd.prog 13 = some ⟨2, 24, true, [Value.string ⟨#[]⟩, Value.int IntKind.u64 0]⟩ ∧
    tinf Tryd.prog 14 = some ⟨2, 24, true, [Value.string ⟨#[]⟩, Value.int IntKind.u64 0]⟩ ∧
    tinf Tryd.prog 15 = some ⟨1, 8, false, [Value.pointer none]⟩ ∧
    tinf Tryd.prog 16 = some ⟨1, 8, false, [Value.pointer none]⟩ ∧
    tinf Tryd.prog 17 = some ⟨1, 8, false, [Value.pointer none]⟩ ∧
    tinf Tryd.prog 18 = some ⟨1, 8, true, [Value.pointer none]⟩ ∧
    tinf Tryd.prog 19 = some ⟨1, 8, true, [Value.pointer none]⟩ ∧
    tinf Tryd.prog 20 = some ⟨1, 16, false, [Value.nilIface]⟩ ∧
    tinf Tryd.prog 21 = some ⟨1, 4, false, [Value.int IntKind.i32 0]⟩ ∧
    tinf Tryd.prog 22 = some ⟨1, 24, false, [Value.slice none 0 0]⟩ ∧
    tinf Tryd.prog 23 = some ⟨1, 24, false, [Value.slice none 0 0]⟩ ∧
    tinf Tryd.prog 24 = some ⟨1, 8, false, [Value.int IntKind.i64 0]⟩ ∧
    tinf Tryd.prog 28 = some ⟨1, 4, false, [Value.int IntKind.u32 0]⟩ ∧
    tinf Tryd.prog 30 = some ⟨1, 24, false, [Value.slice none 0 0]⟩ ∧
    tinf Tryd.prog 35 = some ⟨1, 24, false, [Value.slice none 0 0]⟩ ∧
    tinf Tryd.prog 45 = some ⟨1, 24, false, [Value.slice none 0 0]⟩ ∧
    tinf Tryd.prog 68 = some ⟨4, 32, true, [Value.int IntKind.i64 0, Value.int IntKind.i64 0, Value.int IntKind.i64 0, Value.int IntKind.i64 0]⟩ ∧
    tinf Tryd.prog 69 = some ⟨4, 32, true, [Value.int IntKind.i64 0, Value.int IntKind.i64 0, Value.int IntKind.i64 0, Value.int IntKind.i64 0]⟩ ∧
    tinf Tryd.prog 81 = some ⟨1, 24, false, [Value.slice none 0 0]⟩ ∧
    tinf Tryd.prog 82 = some ⟨5, 56, true, [Value.int IntKind.i64 0, Value.int IntKind.i64 0, Value.int IntKind.i64 0, Value.int IntKind.i64 0, Value.slice none 0 0]⟩ ∧
    tinf Tryd.prog 83 = some ⟨5, 56, true, [Value.int IntKind.i64 0, Value.int IntKind.i64 0, Value.int IntKind.i64 0, Value.int IntKind.i64 0, Value.slice none 0 0]⟩ ∧
    tinf Tryd.prog 84 = some ⟨1, 8, false, [Value.map none]⟩ ∧
    tinf Tryd.prog 87 = some ⟨1, 8, false, [Value.map none]⟩ ∧
    tinf Tryd.prog 88 = some ⟨3, 24, true, [Value.bool false, Value.int IntKind.i64 0, Value.int IntKind.i64 0]⟩ ∧
    tinf Tryd.prog 89 = some ⟨3, 24, true, [Value.bool false, Value.int IntKind.i64 0, Value.int IntKind.i64 0]⟩ ∧
    tinf Tryd.prog 96 = some ⟨3, 56, true, [Value.slice none 0 0, Value.slice none 0 0, Value.int IntKind.u32 0]⟩ ∧
    tinf Tryd.prog 97 = some ⟨3, 56, true, [Value.slice none 0 0, Value.slice none 0 0, Value.int IntKind.u32 0]⟩ ∧
    tinf Tryd.prog 105 = some ⟨1, 8, false, [Value.map none]⟩ ∧
    tinf Tryd.prog 108 = some ⟨1, 8, false, [Value.map none]⟩ ∧
    tinf Tryd.prog 110 = some ⟨1, 8, false, [Value.int IntKind.i64 0]⟩ ∧
    tinf Tryd.prog 113 = some ⟨8, 64, true, [Value.int IntKind.i64 0, Value.int IntKind.i64 0, Value.int IntKind.i64 0, Value.int IntKind.i64 0, Value.int IntKind.i64 0, Value.int IntKind.i64 0, Value.int IntKind.i64 0, Value.int IntKind.i64 0]⟩ ∧
    tinf Tryd.prog 114 = some ⟨8, 64, true, [Value.int IntKind.i64 0, Value.int IntKind.i64 0, Value.int IntKind.i64 0, Value.int IntKind.i64 0, Value.int IntKind.i64 0, Value.int IntKind.i64 0, Value.int IntKind.i64 0, Value.int IntKind.i64 0]⟩ ∧
    tinf Tryd.prog 122 = some ⟨1, 24, false, [Value.slice none 0 0]⟩ ∧
    tinf Tryd.prog 124 = some ⟨1, 8, false, [Value.map none]⟩ ∧
    tinf Tryd.prog 125 = some ⟨1, 24, false, [Value.slice none 0 0]⟩ ∧
    tinf Tryd.prog 126 = some ⟨1, 8, false, [Value.pointer none]⟩ ∧
    tinf Tryd.prog 127 = some ⟨9, 88, true, [Value.int IntKind.i64 0, Value.int IntKind.i64 0, Value.int IntKind.i64 0, Value.int IntKind.i64 0, Value.slice none 0 0, Value.int IntKind.i64 0, Value.int IntKind.i64 0, Value.int IntKind.i64 0, Value.int IntKind.i64 0]⟩ ∧
    tinf Tryd.prog 128 = some ⟨9, 88, true, [Value.int IntKind.i64 0, Value.int IntKind.i64 0, Value.int IntKind.i64 0, Value.int IntKind.i64 0, Value.slice none 0 0, Value.int IntKind.i64 0, Value.int IntKind.i64 0, Value.int IntKind.i64 0, Value.int IntKind.i64 0]⟩ ∧
    tinf Tryd.prog 137 = some ⟨2, 16, true, [Value.int IntKind.i64 0, Value.int IntKind.i64 0]⟩ ∧
    tinf Tryd.prog 138 = some ⟨2, 16, true, [Value.int IntKind.i64 0, Value.int IntKind.i64 0]⟩ ∧
    tinf Tryd.prog 148 = some ⟨1, 8, false, [Value.int IntKind.u64 0]⟩ ∧
    tinf Tryd.prog 156 = some ⟨3, 24, true, [Value.string ⟨#[]⟩, Value.bool false, Value.bool false]⟩ ∧
    tinf Tryd.prog 157 = some ⟨3, 24, true, [Value.string ⟨#[]⟩, Value.bool false, Value.bool false]⟩ ∧
    tinf Tryd.prog 158 = some ⟨30, 240, true, [Value.string ⟨#[]⟩, Value.bool false, Value.bool false, Value.string ⟨#[]⟩, Value.bool false, Value.bool false, Value.string ⟨#[]⟩, Value.bool false, Value.bool false, Value.string ⟨#[]⟩, Value.bool false, Value.bool false, Value.string ⟨#[]⟩, Value.bool false, Value.bool false, Value.string ⟨#[]⟩, Value.bool false, Value.bool false, Value.string ⟨#[]⟩, Value.bool false, Value.bool false, Value.string ⟨#[]⟩, Value.bool false, Value.bool false, Value.string ⟨#[]⟩, Value.bool false, Value.bool false, Value.string ⟨#[]⟩, Value.bool false, Value.bool false]⟩ ∧
    tinf Tryd.prog 160 = some ⟨1, 8, false, [Value.int IntKind.i64 0]⟩ ∧
    tinf Tryd.prog 167 = some ⟨1, 8, false, [Value.int IntKind.u64 0]⟩ :=
  ⟨by kernel_rfl,
   by kernel_rfl,
   by kernel_rfl,
   by kernel_rfl,
   by kernel_rfl,
   by kernel_rfl,
   by kernel_rfl,
   by kernel_rfl,
   by kernel_rfl,
   by kernel_rfl,
   by kernel_rfl,
   by kernel_rfl,
   by kernel_rfl,
   by kernel_rfl,
   by kernel_rfl,
   by kernel_rfl,
   by kernel_rfl,
   by kernel_rfl,
   by kernel_rfl,
   by kernel_rfl,
   by kernel_rfl,
   by kernel_rfl,
   by kernel_rfl,
   by kernel_rfl,
   by kernel_rfl,
   by kernel_rfl,
   by kernel_rfl,
   by kernel_rfl,
   by kernel_rfl,
   by kernel_rfl,
   by kernel_rfl,
   by kernel_rfl,
   by kernel_rfl,
   by kernel_rfl,
   by kernel_rfl,
   by kernel_rfl,
   by kernel_rfl,
   by kernel_rfl,
   by kernel_rfl,
   by kernel_rfl,
   by kernel_rfl,
   by kernel_rfl,
   by kernel_rfl,
   by kernel_rfl,
   by kernel_rfl,
   by kernel_rfl,
   by kernel_rfl,
   by kernel_rfl,
   by kernel_rfl,
   by kernel_rfl,
   by kernel_rfl,
   by kernel_rfl,
   by kernel_rfl,
   by kernel_rfl,
   by kernel_rfl,
   by kernel_rfl,
   by kernel_rfl⟩
theorem tyF :
    fieldT Tryd.prog 7 0 = some (0, 1, false) ∧
    fieldT Tryd.prog 7 1 = some (1, 1, false) ∧
    fieldT Tryd.prog 7 2 = some (2, 1, false) ∧
    fieldT Tryd.prog 7 3 = some (3, 1, false) ∧
    tkStruct Tryd.prog 7 = some [(0, 1, false), (1, 1, false), (2, 1, false), (3, 1, false)] ∧
    fieldT Tryd.prog 8 0 = some (0, 1, false) ∧
    fieldT Tryd.prog 8 1 = some (1, 1, false) ∧
    fieldT Tryd.prog 8 2 = some (2, 1, false) ∧
    fieldT Tryd.prog 8 3 = some (3, 1, false) ∧
    tkStruct Tryd.prog 8 = some [(0, 1, false), (1, 1, false), (2, 1, false), (3, 1, false)] ∧
    fieldT Tryd.prog 13 0 = some (0, 1, false) ∧
    fieldT Tryd.prog 13 1 = some (1, 1, false) ∧
    tkStruct Tryd.prog 13 = some [(0, 1, false), (1, 1, false)] ∧
    fieldT Tryd.prog 14 0 = some (0, 1, false) ∧
    fieldT Tryd.prog 14 1 = some (1, 1, false) ∧
    tkStruct Tryd.prog 14 = some [(0, 1, false), (1, 1, false)] ∧
    fieldT Tryd.prog 18 0 = some (0, 1, false) ∧
    tkStruct Tryd.prog 18 = some [(0, 1, false)] ∧
    fieldT Tryd.prog 19 0 = some (0, 1, false) ∧
    tkStruct Tryd.prog 19 = some [(0, 1, false)] ∧
    fieldT Tryd.prog 68 0 = some (0, 1, false) ∧
    fieldT Tryd.prog 68 1 = some (1, 1, false) ∧
    fieldT Tryd.prog 68 2 = some (2, 1, false) ∧
    fieldT Tryd.prog 68 3 = some (3, 1, false) ∧
    tkStruct Tryd.prog 68 = some [(0, 1, false), (1, 1, false), (2, 1, false), (3, 1, false)] ∧
    fieldT Tryd.prog 69 0 = some (0, 1, false) ∧
    fieldT Tryd.prog 69 1 = some (1, 1, false) ∧
    fieldT Tryd.prog 69 2 = some (2, 1, false) ∧
    fieldT Tryd.prog 69 3 = some (3, 1, false) ∧
    tkStruct Tryd.prog 69 = some [(0, 1, false), (1, 1, false), (2, 1, false), (3, 1, false)] ∧
    fieldT Tryd.prog 82 0 = some (0, 1, false) ∧
    fieldT Tryd.prog 82 1 = some (1, 1, false) ∧
    fieldT Tryd.prog 82 2 = some (2, 1, false) ∧
    fieldT Tryd.prog 82 3 = some (3, 1, false) ∧
    fieldT Tryd.prog 82 4 = some (4, 1, false) ∧
    tkStruct Tryd.prog 82 = some [(0, 1, false), (1, 1, false), (2, 1, false), (3, 1, false), (4, 1, false)] ∧
    fieldT Tryd.prog 83 0 = some (0, 1, false) ∧
    fieldT Tryd.prog 83 1 = some (1, 1, false) ∧
    fieldT Tryd.prog 83 2 = some (2, 1, false) ∧
    fieldT Tryd.prog 83 3 = some (3, 1, false) ∧
    fieldT Tryd.prog 83 4 = some (4, 1, false) ∧
    tkStruct Tryd.prog 83 = some [(0, 1, false), (1, 1, false), (2, 1, false), (3, 1, false), (4, 1, false)] ∧
    fieldT Tryd.prog 88 0 = some (0, 1, false) ∧
    fieldT Tryd.prog 88 1 = some (1, 1, false) ∧
    fieldT Tryd.prog 88 2 = some (2, 1, false) ∧
    tkStruct Tryd.prog 88 = some [(0, 1, false), (1, 1, false), (2, 1, false)] ∧
    fieldT Tryd.prog 89 0 = some (0, 1, false) ∧
    fieldT Tryd.prog 89 1 = some (1, 1, false) ∧
    fieldT Tryd.prog 89 2 = some (2, 1, false) ∧
    tkStruct Tryd.prog 89 = some [(0, 1, false), (1, 1, false), (2, 1, false)] ∧
    fieldT Tryd.prog 96 0 = some (0, 1, false) ∧
    fieldT Tryd.prog 96 1 = some (1, 1, false) ∧
    fieldT Tryd.prog 96 2 = some (2, 1, false) ∧
    tkStruct Tryd.prog 96 = some [(0, 1, false), (1, 1, false), (2, 1, false)] ∧
    fieldT Tryd.prog 97 0 = some (0, 1, false) ∧
    fieldT Tryd.prog 97 1 = some (1, 1, false) ∧
    fieldT Tryd.prog 97 2 = some (2, 1, false) ∧
    tkStruct Tryd.prog 97 = some [(0, 1, false), (1, 1, false), (2, 1, false)] ∧
    fieldT Tryd.prog 127 0 = some (0, 5, true) ∧
    fieldT Tryd.prog 127 1 = some (5, 4, true) ∧
    tkStruct Tryd.prog 127 = some [(0, 5, true), (5, 4, true)] ∧
    fieldT Tryd.prog 128 0 = some (0, 5, true) ∧
    fieldT Tryd.prog 128 1 = some (5, 4, true) ∧
    tkStruct Tryd.prog 128 = some [(0, 5, true), (5, 4, true)] ∧
    fieldT Tryd.prog 137 0 = some (0, 1, false) ∧
    fieldT Tryd.prog 137 1 = some (1, 1, false) ∧
    tkStruct Tryd.prog 137 = some [(0, 1, false), (1, 1, false)] ∧
    fieldT Tryd.prog 138 0 = some (0, 1, false) ∧
    fieldT Tryd.prog 138 1 = some (1, 1, false) ∧
    tkStruct Tryd.prog 138 = some [(0, 1, false), (1, 1, false)] ∧
    fieldT Tryd.prog 156 0 = some (0, 1, false) ∧
    fieldT Tryd.prog 156 1 = some (1, 1, false) ∧
    fieldT Tryd.prog 156 2 = some (2, 1, false) ∧
    tkStruct Tryd.prog 156 = some [(0, 1, false), (1, 1, false), (2, 1, false)] ∧
    fieldT Tryd.prog 157 0 = some (0, 1, false) ∧
    fieldT Tryd.prog 157 1 = some (1, 1, false) ∧
    fieldT Tryd.prog 157 2 = some (2, 1, false) ∧
    tkStruct Tryd.prog 157 = some [(0, 1, false), (1, 1, false), (2, 1, false)] :=
  ⟨by kernel_rfl,
   by kernel_rfl,
   by kernel_rfl,
   by kernel_rfl,
   by kernel_rfl,
   by kernel_rfl,
   by kernel_rfl,
   by kernel_rfl,
   by kernel_rfl,
   by kernel_rfl,
   by kernel_rfl,
   by kernel_rfl,
   by kernel_rfl,
   by kernel_rfl,
   by kernel_rfl,
   by kernel_rfl,
   by kernel_rfl,
   by kernel_rfl,
   by kernel_rfl,
   by kernel_rfl,
   by kernel_rfl,
   by kernel_rfl,
   by kernel_rfl,
   by kernel_rfl,
   by kernel_rfl,
   by kernel_rfl,
   by kernel_rfl,
   by kernel_rfl,
   by kernel_rfl,
   by kernel_rfl,
   by kernel_rfl,
   by kernel_rfl,
   by kernel_rfl,
   by kernel_rfl,
   by kernel_rfl,
   by kernel_rfl,
   by kernel_rfl,
   by kernel_rfl,
   by kernel_rfl,
   by kernel_rfl,
   by kernel_rfl,
   by kernel_rfl,
   by kernel_rfl,
   by kernel_rfl,
   by kernel_rfl,
   by kernel_rfl,
   by kernel_rfl,
   by kernel_rfl,
   by kernel_rfl,
   by kernel_rfl,
   by kernel_rfl,
   by kernel_rfl,
   by kernel_rfl,
   by kernel_rfl,
   by kernel_rfl,
   by kernel_rfl,
   by kernel_rfl,
   by kernel_rfl,
   by kernel_rfl,
   by kernel_rfl,
   by kernel_rfl,
   by kernel_rfl,
   by kernel_rfl,
   by kernel_rfl,
   by kernel_rfl,
   by kernel_rfl,
   by kernel_rfl,
   by kernel_rfl,
   by kernel_rfl,
   by kernel_rfl,
   by kernel_rfl,
   by kernel_rfl,
   by kernel_rfl,
   by kernel_rfl,
   by kernel_rfl,
   by kernel_rfl,
   by kernel_rfl,
   by kernel_rfl⟩
theorem tyX :
    indexT Tryd.prog 22 = some (.slice 4) ∧
    indexT Tryd.prog 23 = some (.slice 1) ∧
    indexT Tryd.prog 30 = some (.slice 1) ∧
    indexT Tryd.prog 35 = some (.slice 5) ∧
    indexT Tryd.prog 45 = some (.slice 1) ∧
    indexT Tryd.prog 81 = some (.slice 3) ∧
    indexT Tryd.prog 113 = some (.arr 8 1) ∧
    indexT Tryd.prog 114 = some (.arr 8 1) ∧
    indexT Tryd.prog 122 = some (.slice 1) ∧
    indexT Tryd.prog 125 = some (.slice 1) ∧
    indexT Tryd.prog 158 = some (.arr 10 3) :=
  ⟨by kernel_rfl,
   by kernel_rfl,
   by kernel_rfl,
   by kernel_rfl,
   by kernel_rfl,
   by kernel_rfl,
   by kernel_rfl,
   by kernel_rfl,
   by kernel_rfl,
   by kernel_rfl,
   by kernel_rfl⟩
theorem tyL :
    lenT Tryd.prog 9 = some true ∧
    lenT Tryd.prog 10 = some true ∧
    lenT Tryd.prog 11 = some true ∧
    lenT Tryd.prog 22 = some false ∧
    lenT Tryd.prog 23 = some false ∧
    lenT Tryd.prog 30 = some false ∧
    lenT Tryd.prog 35 = some false ∧
    lenT Tryd.prog 45 = some false ∧
    lenT Tryd.prog 81 = some false ∧
    lenT Tryd.prog 122 = some false ∧
    lenT Tryd.prog 125 = some false :=
  ⟨by kernel_rfl,
   by kernel_rfl,
   by kernel_rfl,
   by kernel_rfl,
   by kernel_rfl,
   by kernel_rfl,
   by kernel_rfl,
   by kernel_rfl,
   by kernel_rfl,
   by kernel_rfl,
   by kernel_rfl⟩
theorem tyK :
    intK Tryd.prog 2 = some .i64 ∧
    intK Tryd.prog 3 = some .i64 ∧
    intK Tryd.prog 5 = some .u8 ∧
    intK Tryd.prog 6 = some .u8 ∧
    intK Tryd.prog 12 = some .u64 ∧
    intK Tryd.prog 21 = some .i32 ∧
    intK Tryd.prog 24 = some .i64 ∧
    intK Tryd.prog 28 = some .u32 ∧
    intK Tryd.prog 110 = some .i64 ∧
    intK Tryd.prog 148 = some .u64 ∧
    intK Tryd.prog 160 = some .i64 ∧
    intK Tryd.prog 167 = some .u64 :=
  ⟨by kernel_rfl,
   by kernel_rfl,
   by kernel_rfl,
   by kernel_rfl,
   by kernel_rfl,
   by kernel_rfl,
   by kernel_rfl,
   by kernel_rfl,
   by kernel_rfl,
   by kernel_rfl,
   by kernel_rfl,
   by kernel_rfl⟩
theorem tyB :
    tk Tryd.prog 4 = .bool :=
  by kernel_rfl
theorem tyE :
    tkElem Tryd.prog 22 = some (69, ⟨4, 32, true, [Value.int IntKind.i64 0, Value.int IntKind.i64 0, Value.int IntKind.i64 0, Value.int IntKind.i64 0]⟩) ∧
    tkElem Tryd.prog 23 = some (28, ⟨1, 4, false, [Value.int IntKind.u32 0]⟩) ∧
    tkElem Tryd.prog 30 = some (3, ⟨1, 8, false, [Value.int IntKind.i64 0]⟩) ∧
    tkElem Tryd.prog 35 = some (83, ⟨5, 56, true, [Value.int IntKind.i64 0, Value.int IntKind.i64 0, Value.int IntKind.i64 0, Value.int IntKind.i64 0, Value.slice none 0 0]⟩) ∧
    tkElem Tryd.prog 45 = some (30, ⟨1, 24, false, [Value.slice none 0 0]⟩) ∧
    tkElem Tryd.prog 81 = some (89, ⟨3, 24, true, [Value.bool false, Value.int IntKind.i64 0, Value.int IntKind.i64 0]⟩) ∧
    tkElem Tryd.prog 122 = some (22, ⟨1, 24, false, [Value.slice none 0 0]⟩) ∧
    tkElem Tryd.prog 125 = some (126, ⟨1, 8, false, [Value.pointer none]⟩) :=
  ⟨by kernel_rfl,
   by kernel_rfl,
   by kernel_rfl,
   by kernel_rfl,
   by kernel_rfl,
   by kernel_rfl,
   by kernel_rfl,
   by kernel_rfl⟩
theorem tyM :
    isMapT Tryd.prog 84 = true ∧
    isMapT Tryd.prog 87 = true ∧
    mapT Tryd.prog 87 = some (.v (Value.bool false)) ∧
    isMapT Tryd.prog 105 = true ∧
    mapT Tryd.prog 105 = some (.v (Value.int IntKind.i64 0)) ∧
    isMapT Tryd.prog 108 = true ∧
    mapT Tryd.prog 108 = some (.mp []) ∧
    isMapT Tryd.prog 124 = true ∧
    mapT Tryd.prog 124 = some (.v (Value.pointer none)) :=
  ⟨by kernel_rfl,
   by kernel_rfl,
   by kernel_rfl,
   by kernel_rfl,
   by kernel_rfl,
   by kernel_rfl,
   by kernel_rfl,
   by kernel_rfl,
   by kernel_rfl⟩
end Go.VC
