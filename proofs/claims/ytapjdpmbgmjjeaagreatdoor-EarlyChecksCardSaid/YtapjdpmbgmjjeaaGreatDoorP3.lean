import Derived.Test.YtapjdpmbgmjjeaaGreatDoorTie
import Derived.IntWalk
import Derived.Deep.Slices
import Derived.Test.YtapjdpmbgmjjeaaGreatDoorRows
import Derived.ChangeSame
import Derived.ChangeVars
import Derived.JoinedOf
import Derived.RowKit
import Derived.LaidLaws
import Derived.LaidHandle
import Derived.OpenShut
import Derived.WalkKit
import Derived.ProofKit
import Derived.ChangeOld
import Derived.Below
import Derived.SizedLaws
import Derived.Lib.SliceRun
import Derived.Test.YtapjdpmbgmjjeaaGreatDoorP2
set_option linter.unusedVariables false
set_option linter.unusedSimpArgs false
set_option linter.unnecessarySimpa false
set_option linter.defProp false
set_option maxRecDepth 100000
section
set_option maxRecDepth 100000
namespace Go.VC
open Go.RowKit Go.Proofs
theorem tyI :
  tinf Tryz.prog 2 = some ⟨1, 8, false, [Value.int IntKind.i64 0]⟩ ∧
  tinf Tryz.prog 3 = some ⟨1, 8, false, [Value.int IntKind.i64 0]⟩ ∧
  tinf Tryz.prog 4 = some ⟨1, 1, false, [Value.bool false]⟩ ∧
  tinf Tryz.prog 5 = some ⟨1, 1, false, [Value.int IntKind.u8 0]⟩ ∧
  tinf Tryz.prog 6 = some ⟨1, 1, false, [Value.int IntKind.u8 0]⟩ ∧
  tinf Tryz.prog 7 = some ⟨4, 24, true, [Value.int IntKind.i64 0, Value.int IntKind.i64 0, Value.bool false, Value.int IntKind.u8 0]⟩ ∧
  tinf Tryz.prog 8 = some ⟨4, 24, true, [Value.int IntKind.i64 0, Value.int IntKind.i64 0, Value.bool false, Value.int IntKind.u8 0]⟩ ∧
  tinf Tryz.prog 9 = some ⟨1, 16, false, [Value.string ⟨#[]⟩]⟩ ∧
  tinf Tryz.prog 10 = some ⟨1, 16, false, [Value.string ⟨#[]⟩]⟩ ∧
  tinf Tryz.prog 11 = some ⟨1, 16, false, [Value.string ⟨#[]⟩]⟩ ∧
  tinf Tryz.prog 12 = some ⟨1, 8, false, [Value.int IntKind.u64 0]⟩ ∧
  tinf Tryz.prog 13 = some ⟨2, 24, true, [Value.string ⟨#[]⟩, Value.int IntKind.u64 0]⟩ ∧
  tinf Tryz.prog 14 = some ⟨2, 24, true, [Value.string ⟨#[]⟩, Value.int IntKind.u64 0]⟩ ∧
  tinf Tryz.prog 15 = some ⟨1, 8, false, [Value.pointer none]⟩ ∧
  tinf Tryz.prog 16 = some ⟨1, 8, false, [Value.pointer none]⟩ ∧
  tinf Tryz.prog 17 = some ⟨1, 8, false, [Value.pointer none]⟩ ∧
  tinf Tryz.prog 18 = some ⟨1, 8, true, [Value.pointer none]⟩ ∧
  tinf Tryz.prog 19 = some ⟨1, 8, true, [Value.pointer none]⟩ ∧
  tinf Tryz.prog 20 = some ⟨1, 16, false, [Value.nilIface]⟩ ∧
  tinf Tryz.prog 21 = some ⟨1, 4, false, [Value.int IntKind.i32 0]⟩ ∧
  tinf Tryz.prog 22 = some ⟨1, 24, false, [Value.slice none 0 0]⟩ ∧
  tinf Tryz.prog 23 = some ⟨1, 24, false, [Value.slice none 0 0]⟩ ∧
  tinf Tryz.prog 24 = some ⟨4, 48, true, [Value.int IntKind.i64 0, Value.int IntKind.i64 0, Value.slice none 0 0, Value.int IntKind.i64 0]⟩ ∧
  tinf Tryz.prog 25 = some ⟨4, 48, true, [Value.int IntKind.i64 0, Value.int IntKind.i64 0, Value.slice none 0 0, Value.int IntKind.i64 0]⟩ ∧
  tinf Tryz.prog 26 = some ⟨1, 8, false, [Value.int IntKind.i64 0]⟩ ∧
  tinf Tryz.prog 34 = some ⟨1, 4, false, [Value.int IntKind.u32 0]⟩ ∧
  tinf Tryz.prog 35 = some ⟨1, 24, false, [Value.slice none 0 0]⟩ ∧
  tinf Tryz.prog 36 = some ⟨4, 48, true, [Value.int IntKind.i64 0, Value.int IntKind.u32 0, Value.slice none 0 0, Value.int IntKind.i64 0]⟩ ∧
  tinf Tryz.prog 37 = some ⟨4, 48, true, [Value.int IntKind.i64 0, Value.int IntKind.u32 0, Value.slice none 0 0, Value.int IntKind.i64 0]⟩ ∧
  tinf Tryz.prog 40 = some ⟨1, 24, false, [Value.slice none 0 0]⟩ ∧
  tinf Tryz.prog 46 = some ⟨5, 72, true, [Value.int IntKind.i64 0, Value.int IntKind.u32 0, Value.slice none 0 0, Value.slice none 0 0, Value.int IntKind.i64 0]⟩ ∧
  tinf Tryz.prog 47 = some ⟨5, 72, true, [Value.int IntKind.i64 0, Value.int IntKind.u32 0, Value.slice none 0 0, Value.slice none 0 0, Value.int IntKind.i64 0]⟩ ∧
  tinf Tryz.prog 54 = some ⟨1, 24, false, [Value.slice none 0 0]⟩ ∧
  tinf Tryz.prog 55 = some ⟨5, 64, true, [Value.slice none 0 0, Value.slice none 0 0, Value.int IntKind.i64 0, Value.int IntKind.u32 0, Value.int IntKind.u32 0]⟩ ∧
  tinf Tryz.prog 56 = some ⟨5, 64, true, [Value.slice none 0 0, Value.slice none 0 0, Value.int IntKind.i64 0, Value.int IntKind.u32 0, Value.int IntKind.u32 0]⟩ ∧
  tinf Tryz.prog 60 = some ⟨4, 32, true, [Value.int IntKind.i64 0, Value.int IntKind.i64 0, Value.int IntKind.i64 0, Value.int IntKind.i64 0]⟩ ∧
  tinf Tryz.prog 61 = some ⟨4, 32, true, [Value.int IntKind.i64 0, Value.int IntKind.i64 0, Value.int IntKind.i64 0, Value.int IntKind.i64 0]⟩ ∧
  tinf Tryz.prog 65 = some ⟨4, 64, true, [Value.slice none 0 0, Value.slice none 0 0, Value.int IntKind.i64 0, Value.int IntKind.i64 0]⟩ ∧
  tinf Tryz.prog 66 = some ⟨4, 64, true, [Value.slice none 0 0, Value.slice none 0 0, Value.int IntKind.i64 0, Value.int IntKind.i64 0]⟩ ∧
  tinf Tryz.prog 72 = some ⟨1, 24, false, [Value.slice none 0 0]⟩ ∧
  tinf Tryz.prog 73 = some ⟨5, 56, true, [Value.int IntKind.i64 0, Value.int IntKind.i64 0, Value.int IntKind.i64 0, Value.int IntKind.i64 0, Value.slice none 0 0]⟩ ∧
  tinf Tryz.prog 74 = some ⟨5, 56, true, [Value.int IntKind.i64 0, Value.int IntKind.i64 0, Value.int IntKind.i64 0, Value.int IntKind.i64 0, Value.slice none 0 0]⟩ ∧
  tinf Tryz.prog 78 = some ⟨1, 24, false, [Value.slice none 0 0]⟩ ∧
  tinf Tryz.prog 86 = some ⟨1, 8, false, [Value.pointer none]⟩ ∧
  tinf Tryz.prog 87 = some ⟨6, 72, true, [Value.slice none 0 0, Value.slice none 0 0, Value.int IntKind.u32 0, Value.int IntKind.u32 0, Value.int IntKind.i64 0, Value.int IntKind.i64 0]⟩ ∧
  tinf Tryz.prog 88 = some ⟨6, 72, true, [Value.slice none 0 0, Value.slice none 0 0, Value.int IntKind.u32 0, Value.int IntKind.u32 0, Value.int IntKind.i64 0, Value.int IntKind.i64 0]⟩ ∧
  tinf Tryz.prog 117 = some ⟨1, 24, true, [Value.slice none 0 0]⟩ ∧
  tinf Tryz.prog 118 = some ⟨1, 24, true, [Value.slice none 0 0]⟩ ∧
  tinf Tryz.prog 121 = some ⟨4, 40, true, [Value.slice none 0 0, Value.int IntKind.u32 0, Value.int IntKind.u32 0, Value.int IntKind.i64 0]⟩ ∧
  tinf Tryz.prog 122 = some ⟨4, 40, true, [Value.slice none 0 0, Value.int IntKind.u32 0, Value.int IntKind.u32 0, Value.int IntKind.i64 0]⟩ ∧
  tinf Tryz.prog 123 = some ⟨2, 32, true, [Value.int IntKind.i64 0, Value.slice none 0 0]⟩ ∧
  tinf Tryz.prog 124 = some ⟨2, 32, true, [Value.int IntKind.i64 0, Value.slice none 0 0]⟩ ∧
  tinf Tryz.prog 127 = some ⟨1, 8, false, [Value.map none]⟩ ∧
  tinf Tryz.prog 128 = some ⟨1, 24, false, [Value.slice none 0 0]⟩ ∧
  tinf Tryz.prog 129 = some ⟨1, 8, false, [Value.pointer none]⟩ ∧
  tinf Tryz.prog 130 = some ⟨9, 88, true, [Value.int IntKind.i64 0, Value.int IntKind.i64 0, Value.int IntKind.i64 0, Value.int IntKind.i64 0, Value.slice none 0 0, Value.int IntKind.i64 0, Value.int IntKind.i64 0, Value.int IntKind.i64 0, Value.int IntKind.i64 0]⟩ ∧
  tinf Tryz.prog 131 = some ⟨9, 88, true, [Value.int IntKind.i64 0, Value.int IntKind.i64 0, Value.int IntKind.i64 0, Value.int IntKind.i64 0, Value.slice none 0 0, Value.int IntKind.i64 0, Value.int IntKind.i64 0, Value.int IntKind.i64 0, Value.int IntKind.i64 0]⟩ ∧
  tinf Tryz.prog 136 = some ⟨1, 8, false, [Value.map none]⟩ ∧
  tinf Tryz.prog 140 = some ⟨8, 64, true, [Value.int IntKind.i64 0, Value.int IntKind.i64 0, Value.int IntKind.i64 0, Value.int IntKind.i64 0, Value.int IntKind.i64 0, Value.int IntKind.i64 0, Value.int IntKind.i64 0, Value.int IntKind.i64 0]⟩ ∧
  tinf Tryz.prog 141 = some ⟨8, 64, true, [Value.int IntKind.i64 0, Value.int IntKind.i64 0, Value.int IntKind.i64 0, Value.int IntKind.i64 0, Value.int IntKind.i64 0, Value.int IntKind.i64 0, Value.int IntKind.i64 0, Value.int IntKind.i64 0]⟩ ∧
  tinf Tryz.prog 157 = some ⟨3, 24, true, [Value.bool false, Value.int IntKind.i64 0, Value.int IntKind.i64 0]⟩ ∧
  tinf Tryz.prog 158 = some ⟨3, 24, true, [Value.bool false, Value.int IntKind.i64 0, Value.int IntKind.i64 0]⟩ ∧
  tinf Tryz.prog 163 = some ⟨1, 8, false, [Value.map none]⟩ ∧
  tinf Tryz.prog 175 = some ⟨1, 8, false, [Value.int IntKind.u64 0]⟩ ∧
  tinf Tryz.prog 179 = some ⟨1, 8, false, [Value.map none]⟩ ∧
  tinf Tryz.prog 181 = some ⟨1, 8, false, [Value.int IntKind.i64 0]⟩ ∧
  tinf Tryz.prog 190 = some ⟨1, 8, false, [Value.int IntKind.i64 0]⟩ ∧
  tinf Tryz.prog 200 = some ⟨1, 8, false, [Value.int IntKind.u64 0]⟩ ∧
  tinf Tryz.prog 203 = some ⟨3, 24, true, [Value.string ⟨#[]⟩, Value.bool false, Value.bool false]⟩ ∧
  tinf Tryz.prog 204 = some ⟨3, 24, true, [Value.string ⟨#[]⟩, Value.bool false, Value.bool false]⟩ ∧
  tinf Tryz.prog 205 = some ⟨30, 240, true, [Value.string ⟨#[]⟩, Value.bool false, Value.bool false, Value.string ⟨#[]⟩, Value.bool false, Value.bool false, Value.string ⟨#[]⟩, Value.bool false, Value.bool false, Value.string ⟨#[]⟩, Value.bool false, Value.bool false, Value.string ⟨#[]⟩, Value.bool false, Value.bool false, Value.string ⟨#[]⟩, Value.bool false, Value.bool false, Value.string ⟨#[]⟩, Value.bool false, Value.bool false, Value.string ⟨#[]⟩, Value.bool false, Value.bool false, Value.string ⟨#[]⟩, Value.bool false, Value.bool false, Value.string ⟨#[]⟩, Value.bool false, Value.bool false]⟩ ∧
  tinf Tryz.prog 209 = some ⟨1, 8, false, [Value.int IntKind.u64 0]⟩ ∧
  tinf Tryz.prog 213 = some ⟨1, 8, false, [Value.pointer none]⟩ ∧
  tinf Tryz.prog 215 = some ⟨1, 8, false, [Value.pointer none]⟩ ∧
  tinf Tryz.prog 219 = some ⟨4, 40, true, [Value.pointer none, Value.pointer none, Value.pointer none, Value.string ⟨#[]⟩]⟩ ∧
  tinf Tryz.prog 220 = some ⟨4, 40, true, [Value.pointer none, Value.pointer none, Value.pointer none, Value.string ⟨#[]⟩]⟩ ∧
  tinf Tryz.prog 221 = some ⟨0, 0, true, []⟩ ∧
  tinf Tryz.prog 222 = some ⟨0, 0, true, []⟩ ∧
  tinf Tryz.prog 223 = some ⟨0, 0, true, []⟩ ∧
  tinf Tryz.prog 225 = some ⟨1, 1, false, [Value.int IntKind.u8 0]⟩ ∧
  tinf Tryz.prog 226 = some ⟨1, 1, false, [Value.int IntKind.u8 0]⟩ ∧
  tinf Tryz.prog 228 = some ⟨1, 8, false, [Value.pointer none]⟩ ∧
  tinf Tryz.prog 229 = some ⟨1, 4, false, [Value.int IntKind.i32 0]⟩ ∧
  tinf Tryz.prog 230 = some ⟨1, 4, false, [Value.int IntKind.i32 0]⟩ ∧
  tinf Tryz.prog 231 = some ⟨11, 48, true, [Value.int IntKind.u64 0, Value.int IntKind.u64 0, Value.int IntKind.u32 0, Value.int IntKind.u8 0, Value.int IntKind.u8 0, Value.int IntKind.u8 0, Value.int IntKind.u8 0, Value.nilFunc, Value.pointer none, Value.int IntKind.i32 0, Value.int IntKind.i32 0]⟩ ∧
  tinf Tryz.prog 232 = some ⟨11, 48, true, [Value.int IntKind.u64 0, Value.int IntKind.u64 0, Value.int IntKind.u32 0, Value.int IntKind.u8 0, Value.int IntKind.u8 0, Value.int IntKind.u8 0, Value.int IntKind.u8 0, Value.nilFunc, Value.pointer none, Value.int IntKind.i32 0, Value.int IntKind.i32 0]⟩ :=
 ⟨by kernel_rfl, by kernel_rfl, by kernel_rfl, by kernel_rfl, by kernel_rfl, by kernel_rfl, by kernel_rfl, by kernel_rfl, by kernel_rfl, by kernel_rfl, by kernel_rfl, by kernel_rfl, by kernel_rfl, by kernel_rfl, by kernel_rfl, by kernel_rfl, by kernel_rfl, by kernel_rfl, by kernel_rfl, by kernel_rfl, by kernel_rfl, by kernel_rfl, by kernel_rfl, by kernel_rfl, by kernel_rfl, by kernel_rfl, by kernel_rfl, by kernel_rfl, by kernel_rfl, by kernel_rfl, by kernel_rfl, by kernel_rfl, by kernel_rfl, by kernel_rfl, by kernel_rfl, by kernel_rfl, by kernel_rfl, by kernel_rfl, by kernel_rfl, by kernel_rfl, by kernel_rfl, by kernel_rfl, by kernel_rfl, by kernel_rfl, by kernel_rfl, by kernel_rfl, by kernel_rfl, by kernel_rfl, by kernel_rfl, by kernel_rfl, by kernel_rfl, by kernel_rfl, by kernel_rfl, by kernel_rfl, by kernel_rfl, by kernel_rfl, by kernel_rfl, by kernel_rfl, by kernel_rfl, by kernel_rfl, by kernel_rfl, by kernel_rfl, by kernel_rfl, by kernel_rfl, by kernel_rfl, by kernel_rfl, by kernel_rfl, by kernel_rfl, by kernel_rfl, by kernel_rfl, by kernel_rfl, by kernel_rfl, by kernel_rfl, by kernel_rfl, by kernel_rfl, by kernel_rfl, by kernel_rfl, by kernel_rfl, by kernel_rfl, by kernel_rfl, by kernel_rfl, by kernel_rfl, by kernel_rfl, by kernel_rfl, by kernel_rfl, by kernel_rfl⟩
attribute [go_sem] tyI
theorem tyF :
  fieldT Tryz.prog 7 0 = some (0, 1, false) ∧
  fieldT Tryz.prog 7 1 = some (1, 1, false) ∧
  fieldT Tryz.prog 7 2 = some (2, 1, false) ∧
  fieldT Tryz.prog 7 3 = some (3, 1, false) ∧
  tkStruct Tryz.prog 7 = some [(0, 1, false), (1, 1, false), (2, 1, false), (3, 1, false)] ∧
  fieldT Tryz.prog 8 0 = some (0, 1, false) ∧
  fieldT Tryz.prog 8 1 = some (1, 1, false) ∧
  fieldT Tryz.prog 8 2 = some (2, 1, false) ∧
  fieldT Tryz.prog 8 3 = some (3, 1, false) ∧
  tkStruct Tryz.prog 8 = some [(0, 1, false), (1, 1, false), (2, 1, false), (3, 1, false)] ∧
  fieldT Tryz.prog 13 0 = some (0, 1, false) ∧
  fieldT Tryz.prog 13 1 = some (1, 1, false) ∧
  tkStruct Tryz.prog 13 = some [(0, 1, false), (1, 1, false)] ∧
  fieldT Tryz.prog 14 0 = some (0, 1, false) ∧
  fieldT Tryz.prog 14 1 = some (1, 1, false) ∧
  tkStruct Tryz.prog 14 = some [(0, 1, false), (1, 1, false)] ∧
  fieldT Tryz.prog 18 0 = some (0, 1, false) ∧
  tkStruct Tryz.prog 18 = some [(0, 1, false)] ∧
  fieldT Tryz.prog 19 0 = some (0, 1, false) ∧
  tkStruct Tryz.prog 19 = some [(0, 1, false)] ∧
  fieldT Tryz.prog 24 0 = some (0, 1, false) ∧
  fieldT Tryz.prog 24 1 = some (1, 1, false) ∧
  fieldT Tryz.prog 24 2 = some (2, 1, false) ∧
  fieldT Tryz.prog 24 3 = some (3, 1, false) ∧
  tkStruct Tryz.prog 24 = some [(0, 1, false), (1, 1, false), (2, 1, false), (3, 1, false)] ∧
  fieldT Tryz.prog 25 0 = some (0, 1, false) ∧
  fieldT Tryz.prog 25 1 = some (1, 1, false) ∧
  fieldT Tryz.prog 25 2 = some (2, 1, false) ∧
  fieldT Tryz.prog 25 3 = some (3, 1, false) ∧
  tkStruct Tryz.prog 25 = some [(0, 1, false), (1, 1, false), (2, 1, false), (3, 1, false)] ∧
  fieldT Tryz.prog 36 0 = some (0, 1, false) ∧
  fieldT Tryz.prog 36 1 = some (1, 1, false) ∧
  fieldT Tryz.prog 36 2 = some (2, 1, false) ∧
  fieldT Tryz.prog 36 3 = some (3, 1, false) ∧
  tkStruct Tryz.prog 36 = some [(0, 1, false), (1, 1, false), (2, 1, false), (3, 1, false)] ∧
  fieldT Tryz.prog 37 0 = some (0, 1, false) ∧
  fieldT Tryz.prog 37 1 = some (1, 1, false) ∧
  fieldT Tryz.prog 37 2 = some (2, 1, false) ∧
  fieldT Tryz.prog 37 3 = some (3, 1, false) ∧
  tkStruct Tryz.prog 37 = some [(0, 1, false), (1, 1, false), (2, 1, false), (3, 1, false)] ∧
  fieldT Tryz.prog 46 0 = some (0, 1, false) ∧
  fieldT Tryz.prog 46 1 = some (1, 1, false) ∧
  fieldT Tryz.prog 46 2 = some (2, 1, false) ∧
  fieldT Tryz.prog 46 3 = some (3, 1, false) ∧
  fieldT Tryz.prog 46 4 = some (4, 1, false) ∧
  tkStruct Tryz.prog 46 = some [(0, 1, false), (1, 1, false), (2, 1, false), (3, 1, false), (4, 1, false)] ∧
  fieldT Tryz.prog 47 0 = some (0, 1, false) ∧
  fieldT Tryz.prog 47 1 = some (1, 1, false) ∧
  fieldT Tryz.prog 47 2 = some (2, 1, false) ∧
  fieldT Tryz.prog 47 3 = some (3, 1, false) ∧
  fieldT Tryz.prog 47 4 = some (4, 1, false) ∧
  tkStruct Tryz.prog 47 = some [(0, 1, false), (1, 1, false), (2, 1, false), (3, 1, false), (4, 1, false)] ∧
  fieldT Tryz.prog 55 0 = some (0, 1, false) ∧
  fieldT Tryz.prog 55 1 = some (1, 1, false) ∧
  fieldT Tryz.prog 55 2 = some (2, 1, false) ∧
  fieldT Tryz.prog 55 3 = some (3, 1, false) ∧
  fieldT Tryz.prog 55 4 = some (4, 1, false) ∧
  tkStruct Tryz.prog 55 = some [(0, 1, false), (1, 1, false), (2, 1, false), (3, 1, false), (4, 1, false)] ∧
  fieldT Tryz.prog 56 0 = some (0, 1, false) ∧
  fieldT Tryz.prog 56 1 = some (1, 1, false) ∧
  fieldT Tryz.prog 56 2 = some (2, 1, false) ∧
  fieldT Tryz.prog 56 3 = some (3, 1, false) ∧
  fieldT Tryz.prog 56 4 = some (4, 1, false) ∧
  tkStruct Tryz.prog 56 = some [(0, 1, false), (1, 1, false), (2, 1, false), (3, 1, false), (4, 1, false)] ∧
  fieldT Tryz.prog 60 0 = some (0, 1, false) ∧
  fieldT Tryz.prog 60 1 = some (1, 1, false) ∧
  fieldT Tryz.prog 60 2 = some (2, 1, false) ∧
  fieldT Tryz.prog 60 3 = some (3, 1, false) ∧
  tkStruct Tryz.prog 60 = some [(0, 1, false), (1, 1, false), (2, 1, false), (3, 1, false)] ∧
  fieldT Tryz.prog 61 0 = some (0, 1, false) ∧
  fieldT Tryz.prog 61 1 = some (1, 1, false) ∧
  fieldT Tryz.prog 61 2 = some (2, 1, false) ∧
  fieldT Tryz.prog 61 3 = some (3, 1, false) ∧
  tkStruct Tryz.prog 61 = some [(0, 1, false), (1, 1, false), (2, 1, false), (3, 1, false)] ∧
  fieldT Tryz.prog 65 0 = some (0, 1, false) ∧
  fieldT Tryz.prog 65 1 = some (1, 1, false) ∧
  fieldT Tryz.prog 65 2 = some (2, 1, false) ∧
  fieldT Tryz.prog 65 3 = some (3, 1, false) ∧
  tkStruct Tryz.prog 65 = some [(0, 1, false), (1, 1, false), (2, 1, false), (3, 1, false)] ∧
  fieldT Tryz.prog 66 0 = some (0, 1, false) ∧
  fieldT Tryz.prog 66 1 = some (1, 1, false) ∧
  fieldT Tryz.prog 66 2 = some (2, 1, false) ∧
  fieldT Tryz.prog 66 3 = some (3, 1, false) ∧
  tkStruct Tryz.prog 66 = some [(0, 1, false), (1, 1, false), (2, 1, false), (3, 1, false)] ∧
  fieldT Tryz.prog 73 0 = some (0, 1, false) ∧
  fieldT Tryz.prog 73 1 = some (1, 1, false) ∧
  fieldT Tryz.prog 73 2 = some (2, 1, false) ∧
  fieldT Tryz.prog 73 3 = some (3, 1, false) ∧
  fieldT Tryz.prog 73 4 = some (4, 1, false) ∧
  tkStruct Tryz.prog 73 = some [(0, 1, false), (1, 1, false), (2, 1, false), (3, 1, false), (4, 1, false)] ∧
  fieldT Tryz.prog 74 0 = some (0, 1, false) ∧
  fieldT Tryz.prog 74 1 = some (1, 1, false) ∧
  fieldT Tryz.prog 74 2 = some (2, 1, false) ∧
  fieldT Tryz.prog 74 3 = some (3, 1, false) ∧
  fieldT Tryz.prog 74 4 = some (4, 1, false) ∧
  tkStruct Tryz.prog 74 = some [(0, 1, false), (1, 1, false), (2, 1, false), (3, 1, false), (4, 1, false)] ∧
  fieldT Tryz.prog 87 0 = some (0, 1, false) ∧
  fieldT Tryz.prog 87 1 = some (1, 1, false) ∧
  fieldT Tryz.prog 87 2 = some (2, 1, false) ∧
  fieldT Tryz.prog 87 3 = some (3, 1, false) ∧
  fieldT Tryz.prog 87 4 = some (4, 1, false) ∧
  fieldT Tryz.prog 87 5 = some (5, 1, false) ∧
  tkStruct Tryz.prog 87 = some [(0, 1, false), (1, 1, false), (2, 1, false), (3, 1, false), (4, 1, false), (5, 1, false)] ∧
  fieldT Tryz.prog 88 0 = some (0, 1, false) ∧
  fieldT Tryz.prog 88 1 = some (1, 1, false) ∧
  fieldT Tryz.prog 88 2 = some (2, 1, false) ∧
  fieldT Tryz.prog 88 3 = some (3, 1, false) ∧
  fieldT Tryz.prog 88 4 = some (4, 1, false) ∧
  fieldT Tryz.prog 88 5 = some (5, 1, false) ∧
  tkStruct Tryz.prog 88 = some [(0, 1, false), (1, 1, false), (2, 1, false), (3, 1, false), (4, 1, false), (5, 1, false)] ∧
  fieldT Tryz.prog 117 0 = some (0, 1, false) ∧
  tkStruct Tryz.prog 117 = some [(0, 1, false)] ∧
  fieldT Tryz.prog 118 0 = some (0, 1, false) ∧
  tkStruct Tryz.prog 118 = some [(0, 1, false)] ∧
  fieldT Tryz.prog 121 0 = some (0, 1, false) ∧
  fieldT Tryz.prog 121 1 = some (1, 1, false) ∧
  fieldT Tryz.prog 121 2 = some (2, 1, false) ∧
  fieldT Tryz.prog 121 3 = some (3, 1, false) ∧
  tkStruct Tryz.prog 121 = some [(0, 1, false), (1, 1, false), (2, 1, false), (3, 1, false)] ∧
  fieldT Tryz.prog 122 0 = some (0, 1, false) ∧
  fieldT Tryz.prog 122 1 = some (1, 1, false) ∧
  fieldT Tryz.prog 122 2 = some (2, 1, false) ∧
  fieldT Tryz.prog 122 3 = some (3, 1, false) ∧
  tkStruct Tryz.prog 122 = some [(0, 1, false), (1, 1, false), (2, 1, false), (3, 1, false)] ∧
  fieldT Tryz.prog 123 0 = some (0, 1, false) ∧
  fieldT Tryz.prog 123 1 = some (1, 1, false) ∧
  tkStruct Tryz.prog 123 = some [(0, 1, false), (1, 1, false)] ∧
  fieldT Tryz.prog 124 0 = some (0, 1, false) ∧
  fieldT Tryz.prog 124 1 = some (1, 1, false) ∧
  tkStruct Tryz.prog 124 = some [(0, 1, false), (1, 1, false)] ∧
  fieldT Tryz.prog 130 0 = some (0, 5, true) ∧
  fieldT Tryz.prog 130 1 = some (5, 4, true) ∧
  tkStruct Tryz.prog 130 = some [(0, 5, true), (5, 4, true)] ∧
  fieldT Tryz.prog 131 0 = some (0, 5, true) ∧
  fieldT Tryz.prog 131 1 = some (5, 4, true) ∧
  tkStruct Tryz.prog 131 = some [(0, 5, true), (5, 4, true)] ∧
  fieldT Tryz.prog 157 0 = some (0, 1, false) ∧
  fieldT Tryz.prog 157 1 = some (1, 1, false) ∧
  fieldT Tryz.prog 157 2 = some (2, 1, false) ∧
  tkStruct Tryz.prog 157 = some [(0, 1, false), (1, 1, false), (2, 1, false)] ∧
  fieldT Tryz.prog 158 0 = some (0, 1, false) ∧
  fieldT Tryz.prog 158 1 = some (1, 1, false) ∧
  fieldT Tryz.prog 158 2 = some (2, 1, false) ∧
  tkStruct Tryz.prog 158 = some [(0, 1, false), (1, 1, false), (2, 1, false)] ∧
  fieldT Tryz.prog 203 0 = some (0, 1, false) ∧
  fieldT Tryz.prog 203 1 = some (1, 1, false) ∧
  fieldT Tryz.prog 203 2 = some (2, 1, false) ∧
  tkStruct Tryz.prog 203 = some [(0, 1, false), (1, 1, false), (2, 1, false)] ∧
  fieldT Tryz.prog 204 0 = some (0, 1, false) ∧
  fieldT Tryz.prog 204 1 = some (1, 1, false) ∧
  fieldT Tryz.prog 204 2 = some (2, 1, false) ∧
  tkStruct Tryz.prog 204 = some [(0, 1, false), (1, 1, false), (2, 1, false)] ∧
  fieldT Tryz.prog 219 0 = some (0, 1, false) ∧
  fieldT Tryz.prog 219 1 = some (1, 1, false) ∧
  fieldT Tryz.prog 219 2 = some (2, 1, false) ∧
  fieldT Tryz.prog 219 3 = some (3, 1, false) ∧
  tkStruct Tryz.prog 219 = some [(0, 1, false), (1, 1, false), (2, 1, false), (3, 1, false)] ∧
  fieldT Tryz.prog 220 0 = some (0, 1, false) ∧
  fieldT Tryz.prog 220 1 = some (1, 1, false) ∧
  fieldT Tryz.prog 220 2 = some (2, 1, false) ∧
  fieldT Tryz.prog 220 3 = some (3, 1, false) ∧
  tkStruct Tryz.prog 220 = some [(0, 1, false), (1, 1, false), (2, 1, false), (3, 1, false)] ∧
  fieldT Tryz.prog 222 0 = some (0, 0, true) ∧
  tkStruct Tryz.prog 222 = some [(0, 0, true)] ∧
  fieldT Tryz.prog 223 0 = some (0, 0, true) ∧
  tkStruct Tryz.prog 223 = some [(0, 0, true)] ∧
  fieldT Tryz.prog 231 0 = some (0, 1, false) ∧
  fieldT Tryz.prog 231 1 = some (1, 1, false) ∧
  fieldT Tryz.prog 231 2 = some (2, 1, false) ∧
  fieldT Tryz.prog 231 3 = some (3, 1, false) ∧
  fieldT Tryz.prog 231 4 = some (4, 1, false) ∧
  fieldT Tryz.prog 231 5 = some (5, 1, false) ∧
  fieldT Tryz.prog 231 6 = some (6, 1, false) ∧
  fieldT Tryz.prog 231 7 = some (7, 1, false) ∧
  fieldT Tryz.prog 231 8 = some (8, 1, false) ∧
  fieldT Tryz.prog 231 9 = some (9, 1, false) ∧
  fieldT Tryz.prog 231 10 = some (10, 1, false) ∧
  tkStruct Tryz.prog 231 = some [(0, 1, false), (1, 1, false), (2, 1, false), (3, 1, false), (4, 1, false), (5, 1, false), (6, 1, false), (7, 1, false), (8, 1, false), (9, 1, false), (10, 1, false)] ∧
  fieldT Tryz.prog 232 0 = some (0, 1, false) ∧
  fieldT Tryz.prog 232 1 = some (1, 1, false) ∧
  fieldT Tryz.prog 232 2 = some (2, 1, false) ∧
  fieldT Tryz.prog 232 3 = some (3, 1, false) ∧
  fieldT Tryz.prog 232 4 = some (4, 1, false) ∧
  fieldT Tryz.prog 232 5 = some (5, 1, false) ∧
  fieldT Tryz.prog 232 6 = some (6, 1, false) ∧
  fieldT Tryz.prog 232 7 = some (7, 1, false) ∧
  fieldT Tryz.prog 232 8 = some (8, 1, false) ∧
  fieldT Tryz.prog 232 9 = some (9, 1, false) ∧
  fieldT Tryz.prog 232 10 = some (10, 1, false) ∧
  tkStruct Tryz.prog 232 = some [(0, 1, false), (1, 1, false), (2, 1, false), (3, 1, false), (4, 1, false), (5, 1, false), (6, 1, false), (7, 1, false), (8, 1, false), (9, 1, false), (10, 1, false)] :=
 ⟨by kernel_rfl, by kernel_rfl, by kernel_rfl, by kernel_rfl, by kernel_rfl, by kernel_rfl, by kernel_rfl, by kernel_rfl, by kernel_rfl, by kernel_rfl, by kernel_rfl, by kernel_rfl, by kernel_rfl, by kernel_rfl, by kernel_rfl, by kernel_rfl, by kernel_rfl, by kernel_rfl, by kernel_rfl, by kernel_rfl, by kernel_rfl, by kernel_rfl, by kernel_rfl, by kernel_rfl, by kernel_rfl, by kernel_rfl, by kernel_rfl, by kernel_rfl, by kernel_rfl, by kernel_rfl, by kernel_rfl, by kernel_rfl, by kernel_rfl, by kernel_rfl, by kernel_rfl, by kernel_rfl, by kernel_rfl, by kernel_rfl, by kernel_rfl, by kernel_rfl, by kernel_rfl, by kernel_rfl, by kernel_rfl, by kernel_rfl, by kernel_rfl, by kernel_rfl, by kernel_rfl, by kernel_rfl, by kernel_rfl, by kernel_rfl, by kernel_rfl, by kernel_rfl, by kernel_rfl, by kernel_rfl, by kernel_rfl, by kernel_rfl, by kernel_rfl, by kernel_rfl, by kernel_rfl, by kernel_rfl, by kernel_rfl, by kernel_rfl, by kernel_rfl, by kernel_rfl, by kernel_rfl, by kernel_rfl, by kernel_rfl, by kernel_rfl, by kernel_rfl, by kernel_rfl, by kernel_rfl, by kernel_rfl, by kernel_rfl, by kernel_rfl, by kernel_rfl, by kernel_rfl, by kernel_rfl, by kernel_rfl, by kernel_rfl, by kernel_rfl, by kernel_rfl, by kernel_rfl, by kernel_rfl, by kernel_rfl, by kernel_rfl, by kernel_rfl, by kernel_rfl, by kernel_rfl, by kernel_rfl, by kernel_rfl, by kernel_rfl, by kernel_rfl, by kernel_rfl, by kernel_rfl, by kernel_rfl, by kernel_rfl, by kernel_rfl, by kernel_rfl, by kernel_rfl, by kernel_rfl, by kernel_rfl, by kernel_rfl, by kernel_rfl, by kernel_rfl, by kernel_rfl, by kernel_rfl, by kernel_rfl, by kernel_rfl, by kernel_rfl, by kernel_rfl, by kernel_rfl, by kernel_rfl, by kernel_rfl, by kernel_rfl, by kernel_rfl, by kernel_rfl, by kernel_rfl, by kernel_rfl, by kernel_rfl, by kernel_rfl, by kernel_rfl, by kernel_rfl, by kernel_rfl, by kernel_rfl, by kernel_rfl, by kernel_rfl, by kernel_rfl, by kernel_rfl, by kernel_rfl, by kernel_rfl, by kernel_rfl, by kernel_rfl, by kernel_rfl, by kernel_rfl, by kernel_rfl, by kernel_rfl, by kernel_rfl, by kernel_rfl, by kernel_rfl, by kernel_rfl, by kernel_rfl, by kernel_rfl, by kernel_rfl, by kernel_rfl, by kernel_rfl, by kernel_rfl, by kernel_rfl, by kernel_rfl, by kernel_rfl, by kernel_rfl, by kernel_rfl, by kernel_rfl, by kernel_rfl, by kernel_rfl, by kernel_rfl, by kernel_rfl, by kernel_rfl, by kernel_rfl, by kernel_rfl, by kernel_rfl, by kernel_rfl, by kernel_rfl, by kernel_rfl, by kernel_rfl, by kernel_rfl, by kernel_rfl, by kernel_rfl, by kernel_rfl, by kernel_rfl, by kernel_rfl, by kernel_rfl, by kernel_rfl, by kernel_rfl, by kernel_rfl, by kernel_rfl, by kernel_rfl, by kernel_rfl, by kernel_rfl, by kernel_rfl, by kernel_rfl, by kernel_rfl, by kernel_rfl, by kernel_rfl, by kernel_rfl, by kernel_rfl, by kernel_rfl, by kernel_rfl, by kernel_rfl, by kernel_rfl, by kernel_rfl⟩
attribute [go_sem] tyF
theorem tyX :
  indexT Tryz.prog 22 = some (.slice 4) ∧
  indexT Tryz.prog 23 = some (.slice 4) ∧
  indexT Tryz.prog 35 = some (.slice 1) ∧
  indexT Tryz.prog 40 = some (.slice 5) ∧
  indexT Tryz.prog 54 = some (.slice 1) ∧
  indexT Tryz.prog 72 = some (.slice 3) ∧
  indexT Tryz.prog 78 = some (.slice 1) ∧
  indexT Tryz.prog 128 = some (.slice 1) ∧
  indexT Tryz.prog 140 = some (.arr 8 1) ∧
  indexT Tryz.prog 141 = some (.arr 8 1) ∧
  indexT Tryz.prog 205 = some (.arr 10 3) ∧
  indexT Tryz.prog 221 = some (.arr 0 1) :=
 ⟨by kernel_rfl, by kernel_rfl, by kernel_rfl, by kernel_rfl, by kernel_rfl, by kernel_rfl, by kernel_rfl, by kernel_rfl, by kernel_rfl, by kernel_rfl, by kernel_rfl, by kernel_rfl⟩
attribute [go_sem] tyX
theorem tyL :
  lenT Tryz.prog 9 = some true ∧
  lenT Tryz.prog 10 = some true ∧
  lenT Tryz.prog 11 = some true ∧
  lenT Tryz.prog 22 = some false ∧
  lenT Tryz.prog 23 = some false ∧
  lenT Tryz.prog 35 = some false ∧
  lenT Tryz.prog 40 = some false ∧
  lenT Tryz.prog 54 = some false ∧
  lenT Tryz.prog 72 = some false ∧
  lenT Tryz.prog 78 = some false ∧
  lenT Tryz.prog 128 = some false :=
 ⟨by kernel_rfl, by kernel_rfl, by kernel_rfl, by kernel_rfl, by kernel_rfl, by kernel_rfl, by kernel_rfl, by kernel_rfl, by kernel_rfl, by kernel_rfl, by kernel_rfl⟩
attribute [go_sem] tyL
theorem tyK :
  intK Tryz.prog 2 = some .i64 ∧
  intK Tryz.prog 3 = some .i64 ∧
  intK Tryz.prog 5 = some .u8 ∧
  intK Tryz.prog 6 = some .u8 ∧
  intK Tryz.prog 12 = some .u64 ∧
  intK Tryz.prog 21 = some .i32 ∧
  intK Tryz.prog 26 = some .i64 ∧
  intK Tryz.prog 34 = some .u32 ∧
  intK Tryz.prog 175 = some .u64 ∧
  intK Tryz.prog 181 = some .i64 ∧
  intK Tryz.prog 190 = some .i64 ∧
  intK Tryz.prog 200 = some .u64 ∧
  intK Tryz.prog 209 = some .u64 ∧
  intK Tryz.prog 225 = some .u8 ∧
  intK Tryz.prog 226 = some .u8 ∧
  intK Tryz.prog 229 = some .i32 ∧
  intK Tryz.prog 230 = some .i32 :=
 ⟨by kernel_rfl, by kernel_rfl, by kernel_rfl, by kernel_rfl, by kernel_rfl, by kernel_rfl, by kernel_rfl, by kernel_rfl, by kernel_rfl, by kernel_rfl, by kernel_rfl, by kernel_rfl, by kernel_rfl, by kernel_rfl, by kernel_rfl, by kernel_rfl, by kernel_rfl⟩
attribute [go_sem] tyK
theorem tyB :
  tk Tryz.prog 4 = .bool :=
 by kernel_rfl
attribute [go_sem] tyB
theorem tyE :
  tkElem Tryz.prog 22 = some (61, ⟨4, 32, true, [Value.int IntKind.i64 0, Value.int IntKind.i64 0, Value.int IntKind.i64 0, Value.int IntKind.i64 0]⟩) ∧
  tkElem Tryz.prog 23 = some (37, ⟨4, 48, true, [Value.int IntKind.i64 0, Value.int IntKind.u32 0, Value.slice none 0 0, Value.int IntKind.i64 0]⟩) ∧
  tkElem Tryz.prog 35 = some (3, ⟨1, 8, false, [Value.int IntKind.i64 0]⟩) ∧
  tkElem Tryz.prog 40 = some (74, ⟨5, 56, true, [Value.int IntKind.i64 0, Value.int IntKind.i64 0, Value.int IntKind.i64 0, Value.int IntKind.i64 0, Value.slice none 0 0]⟩) ∧
  tkElem Tryz.prog 54 = some (34, ⟨1, 4, false, [Value.int IntKind.u32 0]⟩) ∧
  tkElem Tryz.prog 72 = some (158, ⟨3, 24, true, [Value.bool false, Value.int IntKind.i64 0, Value.int IntKind.i64 0]⟩) ∧
  tkElem Tryz.prog 78 = some (35, ⟨1, 24, false, [Value.slice none 0 0]⟩) ∧
  tkElem Tryz.prog 128 = some (129, ⟨1, 8, false, [Value.pointer none]⟩) :=
 ⟨by kernel_rfl, by kernel_rfl, by kernel_rfl, by kernel_rfl, by kernel_rfl, by kernel_rfl, by kernel_rfl, by kernel_rfl⟩
attribute [go_sem] tyE
theorem tyM :
  isMapT Tryz.prog 127 = true ∧
  mapT Tryz.prog 127 = some (.v (Value.pointer none)) ∧
  isMapT Tryz.prog 136 = true ∧
  mapT Tryz.prog 136 = some (.v (Value.nilFunc)) ∧
  isMapT Tryz.prog 163 = true ∧
  mapT Tryz.prog 163 = some (.v (Value.int IntKind.i64 0)) ∧
  isMapT Tryz.prog 179 = true ∧
  mapT Tryz.prog 179 = some (.mp []) :=
 ⟨by kernel_rfl, by kernel_rfl, by kernel_rfl, by kernel_rfl, by kernel_rfl, by kernel_rfl, by kernel_rfl, by kernel_rfl⟩
attribute [go_sem] tyM
theorem tyP :
  isXT Tryz.prog 2 = false ∧
  (∀ pos, isXL Tryz.prog 2 pos = false) ∧
  isXT Tryz.prog 3 = false ∧
  (∀ pos, isXL Tryz.prog 3 pos = false) ∧
  isXT Tryz.prog 4 = false ∧
  (∀ pos, isXL Tryz.prog 4 pos = false) ∧
  isXT Tryz.prog 5 = false ∧
  (∀ pos, isXL Tryz.prog 5 pos = false) ∧
  isXT Tryz.prog 6 = false ∧
  (∀ pos, isXL Tryz.prog 6 pos = false) ∧
  isXT Tryz.prog 7 = false ∧
  (∀ pos, isXL Tryz.prog 7 pos = false) ∧
  isXT Tryz.prog 8 = false ∧
  (∀ pos, isXL Tryz.prog 8 pos = false) ∧
  isXT Tryz.prog 9 = false ∧
  (∀ pos, isXL Tryz.prog 9 pos = false) ∧
  isXT Tryz.prog 10 = false ∧
  (∀ pos, isXL Tryz.prog 10 pos = false) ∧
  isXT Tryz.prog 11 = false ∧
  (∀ pos, isXL Tryz.prog 11 pos = false) ∧
  isXT Tryz.prog 12 = false ∧
  (∀ pos, isXL Tryz.prog 12 pos = false) ∧
  isXT Tryz.prog 13 = false ∧
  (∀ pos, isXL Tryz.prog 13 pos = false) ∧
  isXT Tryz.prog 14 = false ∧
  (∀ pos, isXL Tryz.prog 14 pos = false) ∧
  isXT Tryz.prog 15 = true ∧
  (∀ pos, isXL Tryz.prog 15 pos = true) ∧
  isXT Tryz.prog 16 = true ∧
  (∀ pos, isXL Tryz.prog 16 pos = true) ∧
  isXT Tryz.prog 17 = true ∧
  (∀ pos, isXL Tryz.prog 17 pos = true) ∧
  isXT Tryz.prog 18 = false ∧
  (∀ pos, isXL Tryz.prog 18 pos = false) ∧
  isXT Tryz.prog 19 = false ∧
  (∀ pos, isXL Tryz.prog 19 pos = false) ∧
  isXT Tryz.prog 20 = false ∧
  (∀ pos, isXL Tryz.prog 20 pos = false) ∧
  isXT Tryz.prog 21 = false ∧
  (∀ pos, isXL Tryz.prog 21 pos = false) ∧
  isXT Tryz.prog 22 = false ∧
  (∀ pos, isXL Tryz.prog 22 pos = false) ∧
  isXT Tryz.prog 23 = false ∧
  (∀ pos, isXL Tryz.prog 23 pos = false) ∧
  isXT Tryz.prog 24 = false ∧
  (∀ pos, isXL Tryz.prog 24 pos = false) ∧
  isXT Tryz.prog 25 = false ∧
  (∀ pos, isXL Tryz.prog 25 pos = false) ∧
  isXT Tryz.prog 26 = false ∧
  (∀ pos, isXL Tryz.prog 26 pos = false) ∧
  isXT Tryz.prog 34 = false ∧
  (∀ pos, isXL Tryz.prog 34 pos = false) ∧
  isXT Tryz.prog 35 = false ∧
  (∀ pos, isXL Tryz.prog 35 pos = (pos == "early.go:77" || pos == "world.go:52")) ∧
  isXT Tryz.prog 36 = false ∧
  (∀ pos, isXL Tryz.prog 36 pos = false) ∧
  isXT Tryz.prog 37 = false ∧
  (∀ pos, isXL Tryz.prog 37 pos = false) ∧
  isXT Tryz.prog 40 = false ∧
  (∀ pos, isXL Tryz.prog 40 pos = false) ∧
  isXT Tryz.prog 46 = false ∧
  (∀ pos, isXL Tryz.prog 46 pos = false) ∧
  isXT Tryz.prog 47 = false ∧
  (∀ pos, isXL Tryz.prog 47 pos = false) ∧
  isXT Tryz.prog 54 = false ∧
  (∀ pos, isXL Tryz.prog 54 pos = false) ∧
  isXT Tryz.prog 55 = false ∧
  (∀ pos, isXL Tryz.prog 55 pos = false) ∧
  isXT Tryz.prog 56 = false ∧
  (∀ pos, isXL Tryz.prog 56 pos = false) ∧
  isXT Tryz.prog 60 = false ∧
  (∀ pos, isXL Tryz.prog 60 pos = false) ∧
  isXT Tryz.prog 61 = false ∧
  (∀ pos, isXL Tryz.prog 61 pos = false) ∧
  isXT Tryz.prog 65 = false ∧
  (∀ pos, isXL Tryz.prog 65 pos = false) ∧
  isXT Tryz.prog 66 = false ∧
  (∀ pos, isXL Tryz.prog 66 pos = false) ∧
  isXT Tryz.prog 72 = false ∧
  (∀ pos, isXL Tryz.prog 72 pos = false) ∧
  isXT Tryz.prog 73 = false ∧
  (∀ pos, isXL Tryz.prog 73 pos = false) ∧
  isXT Tryz.prog 74 = false ∧
  (∀ pos, isXL Tryz.prog 74 pos = false) ∧
  isXT Tryz.prog 78 = false ∧
  (∀ pos, isXL Tryz.prog 78 pos = false) ∧
  isXT Tryz.prog 86 = true ∧
  (∀ pos, isXL Tryz.prog 86 pos = true) ∧
  isXT Tryz.prog 87 = false ∧
  (∀ pos, isXL Tryz.prog 87 pos = false) ∧
  isXT Tryz.prog 88 = false ∧
  (∀ pos, isXL Tryz.prog 88 pos = false) ∧
  isXT Tryz.prog 117 = false ∧
  (∀ pos, isXL Tryz.prog 117 pos = false) ∧
  isXT Tryz.prog 118 = false ∧
  (∀ pos, isXL Tryz.prog 118 pos = false) ∧
  isXT Tryz.prog 121 = false ∧
  (∀ pos, isXL Tryz.prog 121 pos = false) ∧
  isXT Tryz.prog 122 = false ∧
  (∀ pos, isXL Tryz.prog 122 pos = false) ∧
  isXT Tryz.prog 123 = false ∧
  (∀ pos, isXL Tryz.prog 123 pos = false) ∧
  isXT Tryz.prog 124 = false ∧
  (∀ pos, isXL Tryz.prog 124 pos = false) ∧
  isXT Tryz.prog 127 = true ∧
  (∀ pos, isXL Tryz.prog 127 pos = true) ∧
  isXT Tryz.prog 128 = true ∧
  (∀ pos, isXL Tryz.prog 128 pos = true) ∧
  isXT Tryz.prog 129 = true ∧
  (∀ pos, isXL Tryz.prog 129 pos = true) ∧
  isXT Tryz.prog 130 = false ∧
  (∀ pos, isXL Tryz.prog 130 pos = false) ∧
  isXT Tryz.prog 131 = false ∧
  (∀ pos, isXL Tryz.prog 131 pos = false) ∧
  isXT Tryz.prog 136 = false ∧
  (∀ pos, isXL Tryz.prog 136 pos = false) ∧
  isXT Tryz.prog 140 = false ∧
  (∀ pos, isXL Tryz.prog 140 pos = false) ∧
  isXT Tryz.prog 141 = false ∧
  (∀ pos, isXL Tryz.prog 141 pos = false) ∧
  isXT Tryz.prog 157 = false ∧
  (∀ pos, isXL Tryz.prog 157 pos = false) ∧
  isXT Tryz.prog 158 = false ∧
  (∀ pos, isXL Tryz.prog 158 pos = false) ∧
  isXT Tryz.prog 163 = false ∧
  (∀ pos, isXL Tryz.prog 163 pos = false) ∧
  isXT Tryz.prog 175 = false ∧
  (∀ pos, isXL Tryz.prog 175 pos = false) ∧
  isXT Tryz.prog 179 = false ∧
  (∀ pos, isXL Tryz.prog 179 pos = false) ∧
  isXT Tryz.prog 181 = false ∧
  (∀ pos, isXL Tryz.prog 181 pos = false) ∧
  isXT Tryz.prog 190 = false ∧
  (∀ pos, isXL Tryz.prog 190 pos = false) ∧
  isXT Tryz.prog 200 = false ∧
  (∀ pos, isXL Tryz.prog 200 pos = false) ∧
  isXT Tryz.prog 203 = false ∧
  (∀ pos, isXL Tryz.prog 203 pos = false) ∧
  isXT Tryz.prog 204 = false ∧
  (∀ pos, isXL Tryz.prog 204 pos = false) ∧
  isXT Tryz.prog 205 = false ∧
  (∀ pos, isXL Tryz.prog 205 pos = false) ∧
  isXT Tryz.prog 209 = false ∧
  (∀ pos, isXL Tryz.prog 209 pos = false) ∧
  isXT Tryz.prog 213 = true ∧
  (∀ pos, isXL Tryz.prog 213 pos = true) ∧
  isXT Tryz.prog 215 = true ∧
  (∀ pos, isXL Tryz.prog 215 pos = true) ∧
  isXT Tryz.prog 219 = false ∧
  (∀ pos, isXL Tryz.prog 219 pos = false) ∧
  isXT Tryz.prog 220 = false ∧
  (∀ pos, isXL Tryz.prog 220 pos = false) ∧
  isXT Tryz.prog 221 = false ∧
  (∀ pos, isXL Tryz.prog 221 pos = false) ∧
  isXT Tryz.prog 222 = false ∧
  (∀ pos, isXL Tryz.prog 222 pos = false) ∧
  isXT Tryz.prog 223 = false ∧
  (∀ pos, isXL Tryz.prog 223 pos = false) ∧
  isXT Tryz.prog 225 = false ∧
  (∀ pos, isXL Tryz.prog 225 pos = false) ∧
  isXT Tryz.prog 226 = false ∧
  (∀ pos, isXL Tryz.prog 226 pos = false) ∧
  isXT Tryz.prog 228 = true ∧
  (∀ pos, isXL Tryz.prog 228 pos = true) ∧
  isXT Tryz.prog 229 = false ∧
  (∀ pos, isXL Tryz.prog 229 pos = false) ∧
  isXT Tryz.prog 230 = false ∧
  (∀ pos, isXL Tryz.prog 230 pos = false) ∧
  isXT Tryz.prog 231 = false ∧
  (∀ pos, isXL Tryz.prog 231 pos = false) ∧
  isXT Tryz.prog 232 = false ∧
  (∀ pos, isXL Tryz.prog 232 pos = false) :=
 ⟨by kernel_rfl, fun _ => rfl, by kernel_rfl, fun _ => rfl, by kernel_rfl, fun _ => rfl, by kernel_rfl, fun _ => rfl, by kernel_rfl, fun _ => rfl, by kernel_rfl, fun _ => rfl, by kernel_rfl, fun _ => rfl, by kernel_rfl, fun _ => rfl, by kernel_rfl, fun _ => rfl, by kernel_rfl, fun _ => rfl, by kernel_rfl, fun _ => rfl, by kernel_rfl, fun _ => rfl, by kernel_rfl, fun _ => rfl, by kernel_rfl, fun _ => rfl, by kernel_rfl, fun _ => rfl, by kernel_rfl, fun _ => rfl, by kernel_rfl, fun _ => rfl, by kernel_rfl, fun _ => rfl, by kernel_rfl, fun _ => rfl, by kernel_rfl, fun _ => rfl, by kernel_rfl, fun _ => rfl, by kernel_rfl, fun _ => rfl, by kernel_rfl, fun _ => rfl, by kernel_rfl, fun _ => rfl, by kernel_rfl, fun _ => rfl, by kernel_rfl, fun _ => rfl, by kernel_rfl, fun _ => rfl, by kernel_rfl, fun _ => rfl, by kernel_rfl, fun _ => rfl, by kernel_rfl, fun _ => rfl, by kernel_rfl, fun _ => rfl, by kernel_rfl, fun _ => rfl, by kernel_rfl, fun _ => rfl, by kernel_rfl, fun _ => rfl, by kernel_rfl, fun _ => rfl, by kernel_rfl, fun _ => rfl, by kernel_rfl, fun _ => rfl, by kernel_rfl, fun _ => rfl, by kernel_rfl, fun _ => rfl, by kernel_rfl, fun _ => rfl, by kernel_rfl, fun _ => rfl, by kernel_rfl, fun _ => rfl, by kernel_rfl, fun _ => rfl, by kernel_rfl, fun _ => rfl, by kernel_rfl, fun _ => rfl, by kernel_rfl, fun _ => rfl, by kernel_rfl, fun _ => rfl, by kernel_rfl, fun _ => rfl, by kernel_rfl, fun _ => rfl, by kernel_rfl, fun _ => rfl, by kernel_rfl, fun _ => rfl, by kernel_rfl, fun _ => rfl, by kernel_rfl, fun _ => rfl, by kernel_rfl, fun _ => rfl, by kernel_rfl, fun _ => rfl, by kernel_rfl, fun _ => rfl, by kernel_rfl, fun _ => rfl, by kernel_rfl, fun _ => rfl, by kernel_rfl, fun _ => rfl, by kernel_rfl, fun _ => rfl, by kernel_rfl, fun _ => rfl, by kernel_rfl, fun _ => rfl, by kernel_rfl, fun _ => rfl, by kernel_rfl, fun _ => rfl, by kernel_rfl, fun _ => rfl, by kernel_rfl, fun _ => rfl, by kernel_rfl, fun _ => rfl, by kernel_rfl, fun _ => rfl, by kernel_rfl, fun _ => rfl, by kernel_rfl, fun _ => rfl, by kernel_rfl, fun _ => rfl, by kernel_rfl, fun _ => rfl, by kernel_rfl, fun _ => rfl, by kernel_rfl, fun _ => rfl, by kernel_rfl, fun _ => rfl, by kernel_rfl, fun _ => rfl, by kernel_rfl, fun _ => rfl, by kernel_rfl, fun _ => rfl, by kernel_rfl, fun _ => rfl, by kernel_rfl, fun _ => rfl, by kernel_rfl, fun _ => rfl, by kernel_rfl, fun _ => rfl, by kernel_rfl, fun _ => rfl, by kernel_rfl, fun _ => rfl, by kernel_rfl, fun _ => rfl, by kernel_rfl, fun _ => rfl⟩
attribute [go_sem] tyP
theorem tyQ :
  isXB Tryz.prog 7 = false ∧
  isXB Tryz.prog 8 = false ∧
  isXB Tryz.prog 13 = false ∧
  isXB Tryz.prog 14 = false ∧
  isXB Tryz.prog 18 = false ∧
  isXB Tryz.prog 19 = false ∧
  isXB Tryz.prog 24 = true ∧
  isXB Tryz.prog 25 = true ∧
  isXB Tryz.prog 36 = true ∧
  isXB Tryz.prog 37 = true ∧
  isXB Tryz.prog 46 = true ∧
  isXB Tryz.prog 47 = true ∧
  isXB Tryz.prog 55 = true ∧
  isXB Tryz.prog 56 = true ∧
  isXB Tryz.prog 60 = false ∧
  isXB Tryz.prog 61 = false ∧
  isXB Tryz.prog 65 = true ∧
  isXB Tryz.prog 66 = true ∧
  isXB Tryz.prog 73 = true ∧
  isXB Tryz.prog 74 = true ∧
  isXB Tryz.prog 87 = true ∧
  isXB Tryz.prog 88 = true ∧
  isXB Tryz.prog 117 = true ∧
  isXB Tryz.prog 118 = true ∧
  isXB Tryz.prog 121 = true ∧
  isXB Tryz.prog 122 = true ∧
  isXB Tryz.prog 123 = true ∧
  isXB Tryz.prog 124 = true ∧
  isXB Tryz.prog 130 = true ∧
  isXB Tryz.prog 131 = true ∧
  isXB Tryz.prog 157 = false ∧
  isXB Tryz.prog 158 = false ∧
  isXB Tryz.prog 203 = false ∧
  isXB Tryz.prog 204 = false ∧
  isXB Tryz.prog 219 = false ∧
  isXB Tryz.prog 220 = false ∧
  isXB Tryz.prog 222 = false ∧
  isXB Tryz.prog 223 = false ∧
  isXB Tryz.prog 231 = false ∧
  isXB Tryz.prog 232 = false :=
 ⟨by kernel_rfl, by kernel_rfl, by kernel_rfl, by kernel_rfl, by kernel_rfl, by kernel_rfl, by kernel_rfl, by kernel_rfl, by kernel_rfl, by kernel_rfl, by kernel_rfl, by kernel_rfl, by kernel_rfl, by kernel_rfl, by kernel_rfl, by kernel_rfl, by kernel_rfl, by kernel_rfl, by kernel_rfl, by kernel_rfl, by kernel_rfl, by kernel_rfl, by kernel_rfl, by kernel_rfl, by kernel_rfl, by kernel_rfl, by kernel_rfl, by kernel_rfl, by kernel_rfl, by kernel_rfl, by kernel_rfl, by kernel_rfl, by kernel_rfl, by kernel_rfl, by kernel_rfl, by kernel_rfl, by kernel_rfl, by kernel_rfl, by kernel_rfl, by kernel_rfl⟩
attribute [go_sem] tyQ
theorem tyS :
  intsT Tryz.prog 60 = some 4 ∧
  intsT Tryz.prog 61 = some 4 :=
 ⟨by kernel_rfl, by kernel_rfl⟩
attribute [go_sem] tyS
end Go.VC
end
section
namespace Go.VC
open Go.RowKit Go.Proofs Go.IntWalk
abbrev dI (n : Int) : D := .v (.int .i64 n)
abbrev dB (b : Bool) : D := .v (.bool b)
abbrev I (n : Int) : A := .d (dI n)
abbrev B (b : Bool) : A := .d (dB b)
structure Ev where
 kind : Int
 tx : Int
 var : Int
 val : Int
def Ev.enc (e : Ev) : List D := [dI e.kind, dI e.tx, dI e.var, dI e.val]
abbrev Ev.a (e : Ev) : A := .ag [dI e.kind, dI e.tx, dI e.var, dI e.val]
abbrev evsA (h : List Ev) : A := .d (.sl (h.map Ev.enc))
def ienc (n : Int) : List D := [dI n]
abbrev intsA (l : List Int) : A := .d (.sl (l.map ienc))
theorem Ev.enc_eq (e : Ev) : e.enc = [dI e.kind, dI e.tx, dI e.var, dI e.val] := rfl
theorem ienc_eq (n : Int) : ienc n = [dI n] := rfl
theorem evs_len {h : List Ev} : ∀ c ∈ h.map Ev.enc, c.length = 4 := fun c hc => by
 obtain ⟨e, _, rfl⟩ := List.mem_map.1 hc; rfl
theorem ints_len {h : List Int} : ∀ c ∈ h.map ienc, c.length = 1 := fun c hc => by
 obtain ⟨e, _, rfl⟩ := List.mem_map.1 hc; rfl
theorem evs_lenT {h : List Ev} : (∀ c ∈ h.map Ev.enc, c.length = 4) = True := eq_true evs_len
theorem ints_lenT {h : List Int} : (∀ c ∈ h.map ienc, c.length = 1) = True := eq_true ints_len
def strD (s : List UInt8) : D := .v (.string ⟨s.toArray⟩)
def kindB : List (Bool × Bool) := [(false, false), (false, false), (true, false), (false, true), (true, true), (false, false), (false, false), (false, false), (false, false), (false, false)]
def kindD (ws : List (List UInt8)) : List D := (ws.zip kindB).flatMap fun p => [strD p.1, dB p.2.1, dB p.2.2]
def kindW : List (List UInt8) := [[98,101,103,105,110],[98,101,103,117,110],[114,101,97,100],[103,111,116],[119,114,105,116,101],[119,114,111,116,101],[99,111,109,109,105,116],[99,111,109,109,105,116,116,101,100],[99,97,110,99,101,108],[97,98,111,114,116,101,100]]
def GL (g : Nat) : Option (List D) := if g = 0 then some (kindD kindW) else none
theorem glob0 {σ : S} : S.eval GL σ (.global 0) = .a (.d (.pt (kindD kindW))) := rfl
theorem call_own {P : Program} {gl : Nat → Option (List D)} {f : FuncId} {rs : List R} (ys : List A) {res : List Rv} {dst : Option Tmp} {σ : S} {K : S → Prop} (h : Holds P gl f ys res) (ha : argsA σ rs = some ys) (hf : res.all Rv.flat = true) (k : S.ret σ dst res K) : callV P gl f rs dst σ K :=
 call_flat ha h hf k
theorem wrap_succ {k n : Nat} (h : k < n) (hn : n ≤ maxLen) : IntKind.i64.wrap ((k : Int) + 1) = ((k + 1 : Nat) : Int) := by
 rw [i64_in _ (by simp only [maxLen] at hn; omega)]; omega
def idxOf {α : Type} (p : α → Bool) (l : List α) : Int := match l.findIdx? p with
 | some i => i
 | none => -1
def noneTo {α : Type} (p : α → Bool) (l : List α) (k : Nat) : Prop := ∀ y ∈ l.take k, p y = false
theorem noneTo_0 {α : Type} {p : α → Bool} {l : List α} : noneTo p l 0 := fun y hy => by simp at hy
theorem noneTo_s {α : Type} {p : α → Bool} {l : List α} {k : Nat} (hk : k < l.length) (h : noneTo p l k) (hp : p l[k] = false) : noneTo p l (k + 1) := fun y hy => by
 rw [List.take_succ_eq_append_getElem hk, List.mem_append] at hy
 rcases hy with hy | hy
 ·exact h y hy
 ·simp at hy; subst hy; exact hp
theorem idx_hit {α : Type} {p : α → Bool} {l : List α} {k : Nat} (hk : k < l.length) (h : noneTo p l k) (hp : p l[k] = true) : idxOf p l = (k : Int) := by
 have : l.findIdx? p = some k := by
  rw [List.findIdx?_eq_some_iff_getElem]
  refine ⟨hk, hp, fun j hj => ?_⟩
  have := h l[j] (List.mem_iff_getElem?.2 ⟨j, by rw [List.getElem?_take]; simp [hj]⟩)
  simp [this]
 simp [idxOf, this]
theorem idx_none {α : Type} {p : α → Bool} {l : List α} {k : Nat} (hk : l.length ≤ k) (h : noneTo p l k) : idxOf p l = -1 := by
 have : l.findIdx? p = none := by
  rw [List.findIdx?_eq_none_iff]
  intro x hx
  exact h x (by rw [List.take_of_length_le hk]; exact hx)
 simp [idxOf, this]
theorem idx_ge {α : Type} {p : α → Bool} {l : List α} : decide (0 ≤ idxOf p l) = l.any p := by
 unfold idxOf
 cases h : l.findIdx? p with
 | none =>
  rw [List.findIdx?_eq_none_iff] at h
  have : l.any p = false := by simpa using h
  rw [this]; rfl
 | some i =>
  rw [List.findIdx?_eq_some_iff_getElem] at h
  obtain ⟨hi, hp, _⟩ := h
  have : l.any p = true := List.any_eq_true.2 ⟨_, List.getElem_mem hi, hp⟩
  rw [this]; simp
end Go.VC
end
section
namespace Go.VC
open Go.RowKit Go.Proofs
section
variable {P : Program} {σ : S}
def pair2c (x : Option D) (y : Option (List D)) : Option (List D) := match x, y with
 | some a, some b => some (a :: b)
 | _, _ => none
theorem p2_s {x : D} {y : List D} : pair2c (some x) (some y) = some (x :: y) := rfl
theorem es_nil : endDs σ [] = some [] := rfl
theorem es_cons {r : R} {rs : List R} : endDs σ (r :: rs) = pair2c (endD σ r) (endDs σ rs) := by
 simp only [endDs, pair2c]
 cases endD σ r <;> cases endDs σ rs <;> rfl
def cellG (σ : S) (m : Option Ob) (ti : Option TI) (off : Nat) (xs : List D) : Prop := match m, ti with
 | some (.box cs), some ti => ti.ag = true ∧ off + ti.sz ≤ cs.length ∧ endDs σ ((cs.drop off).take ti.sz) = some xs
 | _, _ => False
theorem en_cell {t : Tmp} {u : TypeId} {o off : Nat} {xs : List D} : endR P σ (.cell t u) (.ref o off) (.a (.ag xs)) = cellG σ (σ.mem o) (tinf P u) off xs := rfl
theorem cg_b {cs : List R} {sz bs off : Nat} {z : List Value} {xs : List D} : cellG σ (some (.box cs)) (some ⟨sz, bs, true, z⟩) off xs = (off + sz ≤ cs.length ∧ endDs σ ((cs.drop off).take sz) = some xs) := by simp [cellG]
def cellH (σ : S) (m : Option Ob) (ti : Option TI) (off : Nat) (x : D) : Prop := match m, ti with
 | some (.box cs), some ti => ti.ag = false ∧ (match cs[off]? with
  | some r => endD σ r = some x
  | none => False)
 | _, _ => False
theorem en_celd {t : Tmp} {u : TypeId} {o off : Nat} {x : D} : endR P σ (.cell t u) (.ref o off) (.a (.d x)) = cellH σ (σ.mem o) (tinf P u) off x := rfl
theorem ch_b {cs : List R} {sz bs off : Nat} {z : List Value} {x : D} : cellH σ (some (.box cs)) (some ⟨sz, bs, false, z⟩) off x = mat cs[off]? fun r => endD σ r = some x := by
 simp only [cellH, mat, true_and]
 cases cs[off]? <;> rfl
end
def gate (p : Prop) : Prop := p
theorem rO {p : Prop} (h : gate p) : p := h
theorem rG {p : Prop} (h : p) : gate p := h
theorem rS {p : Prop} {K : Bool → Prop} (h : p → K true) (k : ¬ p → K false) : spK p K := ⟨h, k⟩
theorem rB {b : Bool} {X Y : Prop} (h : b = true → X) (k : b = false → Y) : brK b X Y := ⟨h, k⟩
theorem rD {ops : Array Oper} {X Y : Prop} (x : X) (h : DrawOk ops := by unfold DrawOk; decide +kernel) : drawK ops X Y := .inl ⟨h, x⟩
theorem rA {p q : Prop} (y : q) (x : p := by first | omega | (simp only [List.length_map, List.length_take]; omega)) : p ∧ q := ⟨x, y⟩
def PX :=
 And.intro @Bool.false_or <| And.intro @evs_lenT <| And.intro @ints_lenT <| And.intro @List.reverse_cons.{0} <| And.intro @List.reverse_nil.{0} <| And.intro @ne_eq.{1} <| And.intro @not_false_eq_true <| And.intro @not_true_eq_false <| And.intro @Int.cast_ofNat_Int <| And.intro @Int.toNat_natCast <|
 And.intro @en_cell <| And.intro @cg_b <| And.intro @en_celd <| And.intro @ch_b <| And.intro @es_nil <| And.intro @es_cons <| @p2_s
attribute [go_sem] PX
end Go.VC
end
section
set_option maxRecDepth 100000
namespace Go.VC
open Go.RowKit Go.Proofs Go.IntWalk
theorem t122 (n a b : Int) : Holds Tryz.prog GL 149 [I n, I a, I b] [.a (B (decide (a ≤ n) && decide (n ≤ b)))] := by
 refine fn_holds (vs := [.tmp 6]) (by kernel_rfl) Tryz.func149 rfl rfl (by kernel_rfl) (by kernel_rfl) rfl ?_
 (refine rO ?_; repeat' ((with_reducible first | refine rG ?_ | (refine rS ?_ ?_ <;> intro hp) | (refine rB ?_ ?_ <;> intro hb <;> try rw [hb]) | refine rD ?_) <;> try simp only [go_sem, simprocAttr]))
 all_goals (simp_all <;> omega)
theorem c122 {n a b : Int} {dst : Option Tmp} {σ : S} {K : S → Prop} (hK : S.ret σ dst [.a (B (decide (a ≤ n) && decide (n ≤ b)))] K) : callV Tryz.prog GL 149 [.a (I n), .a (I a), .a (I b)] dst σ K :=
 call_dat (t122 n a b) hK
theorem t70 (l : List Int) (x : Int) : Holds Tryz.prog GL 136 [intsA l, I x] [.a (I (idxOf (fun y => x == y) l))] := by
 refine fn_holds_is (vs := [.tmp 4]) (by kernel_rfl) Tryz.func136 rfl rfl (by kernel_rfl) (by kernel_rfl) rfl fun his => ?_
 have hlen := his.1.len
 rw [List.length_map] at hlen
 simp only [go_sem, simprocAttr, List.length_map]
 refine awp_loopA (fun k : Nat => [(0, .a (intsA l)), (1, .a (I x)), (7, .a (I l.length)), (8, .a (I k))]) (fun _ => []) (fun k => k ≤ l.length ∧ noneTo (fun y => x == y) l k) (l.length - ·) 0 ?_ ?_ ⟨Nat.zero_le _, noneTo_0⟩ ?_
 ·simp only [go_sem, simprocAttr]
 ·simp only [go_sem, simprocAttr]
 intro k j ⟨hk, hl⟩
 (refine rO ?_; repeat' ((with_reducible first | refine rG ?_ | (refine rS ?_ ?_ <;> intro hp) | (refine rB ?_ ?_ <;> intro hb <;> try rw [hb]) | refine rD ?_) <;> try simp only [go_sem, simprocAttr]))
 ·have hkl : k < l.length := by omega
  have hx : l[k]? = some l[k] := List.getElem?_eq_getElem hkl
  have hw := wrap_succ hkl hlen
  (refine rO ?_; repeat' ((with_reducible first | refine rG ?_ | (refine rS ?_ ?_ <;> intro hp) | (refine rB ?_ ?_ <;> intro hb <;> try rw [hb]) | refine rD ?_) <;> try simp only [go_sem, simprocAttr, hx, ienc_eq, hw]))
  ·exact (idx_hit hkl hl (by simpa using hp)).symm
  ·exact ⟨k + 1, by simp only [go_sem, simprocAttr], by simp only [go_sem, simprocAttr], ⟨hkl, noneTo_s hkl hl (by simpa using hp)⟩, by dsimp only; omega⟩
 ·exact (idx_none (by omega) hl).symm
theorem c70 {l : List Int} {x : Int} {dst : Option Tmp} {σ : S} {K : S → Prop} (hK : S.ret σ dst [.a (I (idxOf (fun y => x == y) l))] K) : callV Tryz.prog GL 136 [.a (intsA l), .a (I x)] dst σ K :=
 call_dat (t70 l x) hK
theorem t55 (l : List Int) (x : Int) : Holds Tryz.prog GL 115 [intsA l, I x] [.a (B (l.any (fun y => x == y)))] := by
 refine fn_holds (vs := [.tmp 4]) (by kernel_rfl) Tryz.func115 rfl rfl (by kernel_rfl) (by kernel_rfl) rfl ?_
 rw [← idx_ge]
 (refine rO ?_; repeat' ((with_reducible first | refine rG ?_ | (refine rS ?_ ?_ <;> intro hp) | (refine rB ?_ ?_ <;> intro hb <;> try rw [hb]) | refine rD ?_ | apply c70) <;> try simp only [go_sem, simprocAttr]))
 all_goals simp_all
theorem c55 {l : List Int} {x : Int} {dst : Option Tmp} {σ : S} {K : S → Prop} (hK : S.ret σ dst [.a (B (l.any (fun y => x == y)))] K) : callV Tryz.prog GL 115 [.a (intsA l), .a (I x)] dst σ K :=
 call_dat (t55 l x) hK
def rightE (e : Ev) : Bool :=
  decide (0 ≤ e.kind) && decide (e.kind ≤ 9) && decide (0 ≤ e.tx) && decide (e.tx ≤ 9999) &&
  (let p := kindB.getD e.kind.toNat (false, false)
   ((decide (0 ≤ e.var) && decide (e.var ≤ 7) && p.1) || e.var == 0) && ((decide (-2147483648 ≤ e.val) && decide (e.val ≤ 2147483647) && p.2) || e.val == 0))
theorem kind_at (k : Int) (h : 0 ≤ k) (h' : k < 10) : ∃ s r, (kindD kindW).drop (k.toNat * 3) = strD s :: dB (kindB.getD k.toNat (false, false)).1 :: dB (kindB.getD k.toNat (false, false)).2 :: r := by
 have hc : k = 0 ∨ k = 1 ∨ k = 2 ∨ k = 3 ∨ k = 4 ∨ k = 5 ∨ k = 6 ∨ k = 7 ∨ k = 8 ∨ k = 9 := by omega
 rcases hc with rfl | rfl | rfl | rfl | rfl | rfl | rfl | rfl | rfl | rfl <;> exact ⟨_, _, rfl⟩
theorem t105 (e : Ev) : Holds Tryz.prog GL 127 [e.a] [.a (B (rightE e))] := by
 refine fn_holds (vs := [.tmp 2]) (by kernel_rfl) Tryz.func127 rfl rfl (by kernel_rfl) (by kernel_rfl) rfl ?_
 obtain ⟨kd, tx, vr, vl⟩ := e
 by_cases hk : 0 ≤ kd ∧ kd < 10
 ·obtain ⟨h1, h2⟩ := hk
  obtain ⟨s, r, hd⟩ := kind_at kd h1 h2
  have hl : 3 ≤ r.length + 1 + 1 + 1 := by omega
  have hr : rightE ⟨kd, tx, vr, vl⟩ = (decide (0 ≤ tx) && decide (tx ≤ 9999) && ((decide (0 ≤ vr) && decide (vr ≤ 7) && (kindB.getD kd.toNat (false, false)).1) || vr == 0) && ((decide (-2147483648 ≤ vl) && decide (vl ≤ 2147483647) && (kindB.getD kd.toNat (false, false)).2) || vl == 0)) := by
   have : kd ≤ 9 := by omega
   simp [rightE, h1, this, Bool.and_assoc]
  rw [hr]
  generalize (kindB.getD kd.toNat (false, false)).1 = p1 at *
  generalize (kindB.getD kd.toNat (false, false)).2 = p2 at *
  have h3 : kd ≤ 9 := by omega
  generalize hin1 : (decide (0 ≤ tx) && decide (tx ≤ 9999)) = b1
  generalize hin2 : (decide (0 ≤ vr) && decide (vr ≤ 7)) = b2
  generalize hin3 : (decide (-2147483648 ≤ vl) && decide (vl ≤ 2147483647)) = b3
  (refine rO ?_; repeat' ((with_reducible first | refine rG ?_ | (refine rS ?_ ?_ <;> intro hp) | (refine rB ?_ ?_ <;> intro hb <;> try rw [hb]) | refine rD ?_ | apply c122) <;> try simp only [go_sem, simprocAttr, glob0, hd, h1, h2, h3, hl, hin1, hin2, hin3, Bool.and_true, Bool.true_and]))
  all_goals simp_all
 ·have hr : rightE ⟨kd, tx, vr, vl⟩ = false := by
   have : ¬ (0 ≤ kd) ∨ ¬ kd ≤ 9 := by omega
   rcases this with h | h <;> simp [rightE, h]
  have hin : (decide (0 ≤ kd) && decide (kd ≤ 9)) = false := by
   have : ¬ (0 ≤ kd) ∨ ¬ kd ≤ 9 := by omega
   rcases this with h | h <;> simp [h]
  rw [hr]
  (refine rO ?_; repeat' ((with_reducible first | refine rG ?_ | (refine rS ?_ ?_ <;> intro hp) | (refine rB ?_ ?_ <;> intro hb <;> try rw [hb]) | refine rD ?_ | apply c122) <;> try simp only [go_sem, simprocAttr, hin]))
theorem c105 {e : Ev} {dst : Option Tmp} {σ : S} {K : S → Prop} (hK : S.ret σ dst [.a (B (rightE e))] K) : callV Tryz.prog GL 127 [.a (e.a)] dst σ K :=
 call_dat (t105 e) hK
theorem t104 (e : Ev) : Holds Tryz.prog GL 126 [e.a] [.a (B (!rightE e))] := by
 refine fn_holds (vs := [.tmp 2]) (by kernel_rfl) Tryz.func126 rfl rfl (by kernel_rfl) (by kernel_rfl) rfl ?_
 (refine rO ?_; repeat' ((with_reducible first | refine rG ?_ | (refine rS ?_ ?_ <;> intro hp) | (refine rB ?_ ?_ <;> intro hb <;> try rw [hb]) | refine rD ?_ | apply c105) <;> try simp only [go_sem, simprocAttr]))
 all_goals simp_all
theorem t88 (h : List Ev) (f : FuncId) (p : Ev → Bool) (hf : ∀ e ∈ h, Holds Tryz.prog GL f [e.a] [.a (B (p e))]) : Holds Tryz.prog GL 148 [evsA h, .d (.fn f [])] [.a (I (idxOf p h))] := by
 refine fn_holds_is (vs := [.tmp 4]) (by kernel_rfl) Tryz.func148 rfl rfl (by kernel_rfl) (by kernel_rfl) rfl fun his => ?_
 have hlen := his.1.len
 rw [List.length_map] at hlen
 simp only [go_sem, simprocAttr, List.length_map]
 refine awp_loopA (fun k : Nat => [(0, .a (evsA h)), (1, .a (.d (.fn f []))), (7, .a (I h.length)), (8, .a (I k))]) (fun _ => []) (fun k => k ≤ h.length ∧ noneTo p h k) (h.length - ·) 0 ?_ ?_ ⟨Nat.zero_le _, noneTo_0⟩ ?_
 ·simp only [go_sem, simprocAttr]
 ·simp only [go_sem, simprocAttr]
 intro k j ⟨hk, hl⟩
 (refine rO ?_; repeat' ((with_reducible first | refine rG ?_ | (refine rS ?_ ?_ <;> intro hp) | (refine rB ?_ ?_ <;> intro hb <;> try rw [hb]) | refine rD ?_) <;> try simp only [go_sem, simprocAttr]))
 ·have hkl : k < h.length := by omega
  have hx : h[k]? = some h[k] := List.getElem?_eq_getElem hkl
  have hw := wrap_succ hkl hlen
  (refine rO ?_; repeat' ((with_reducible first | refine rG ?_ | (refine rS ?_ ?_ <;> intro hp) | (refine rB ?_ ?_ <;> intro hb <;> try rw [hb]) | refine rD ?_) <;> try simp only [go_sem, simprocAttr, hx, Ev.enc_eq, hw]))
  refine call_dat (hf h[k] (List.getElem_mem hkl)) ?_
  (refine rO ?_; repeat' ((with_reducible first | refine rG ?_ | (refine rS ?_ ?_ <;> intro hp) | (refine rB ?_ ?_ <;> intro hb <;> try rw [hb]) | refine rD ?_) <;> try simp only [go_sem, simprocAttr, hx, Ev.enc_eq, hw]))
  ·exact (idx_hit hkl hl hb).symm
  ·exact ⟨k + 1, by simp only [go_sem, simprocAttr], by simp only [go_sem, simprocAttr], ⟨hkl, noneTo_s hkl hl hb⟩, by dsimp only; omega⟩
 ·exact (idx_none (by omega) hl).symm
theorem t103 (h : List Ev) (f : FuncId) (p : Ev → Bool) (hf : ∀ e ∈ h, Holds Tryz.prog GL f [e.a] [.a (B (p e))]) : Holds Tryz.prog GL 125 [evsA h, .d (.fn f [])] [.a (B (h.any p))] := by
 refine fn_holds (vs := [.tmp 4]) (by kernel_rfl) Tryz.func125 rfl rfl (by kernel_rfl) (by kernel_rfl) rfl ?_
 rw [← idx_ge]
 (refine rO ?_; repeat' ((with_reducible first | refine rG ?_ | (refine rS ?_ ?_ <;> intro hp) | (refine rB ?_ ?_ <;> intro hb <;> try rw [hb]) | refine rD ?_) <;> try simp only [go_sem, simprocAttr]))
 refine call_dat (t88 h f p hf) ?_
 (refine rO ?_; repeat' ((with_reducible first | refine rG ?_ | (refine rS ?_ ?_ <;> intro hp) | (refine rB ?_ ?_ <;> intro hb <;> try rw [hb]) | refine rD ?_) <;> try simp only [go_sem, simprocAttr]))
 all_goals simp_all
def nameStep (out : List Int) (e : Ev) : List Int := if out.any (fun y => e.tx == y) then out else out ++ [e.tx]
def namesE (h : List Ev) : List Int := h.foldl nameStep []
theorem names_s {h : List Ev} {k : Nat} (hk : k < h.length) : namesE (h.take (k + 1)) = nameStep (namesE (h.take k)) h[k] := by
 rw [List.take_succ_eq_append_getElem hk, namesE, List.foldl_append]; rfl
theorem names_le (h : List Ev) : (namesE h).length ≤ h.length := by
 have : ∀ (l : List Ev) (acc : List Int), (l.foldl nameStep acc).length ≤ acc.length + l.length := by
  intro l
  induction l with
  | nil => intro acc; simp
  | cons e l ih =>
   intro acc
   have h1 : (nameStep acc e).length ≤ acc.length + 1 := by unfold nameStep; split <;> simp
   have := ih (nameStep acc e)
   simp only [List.foldl_cons, List.length_cons]; omega
 simpa [namesE] using this h []
theorem t106 (h : List Ev) (hl60 : h.length ≤ 60) : Holds Tryz.prog GL 128 [evsA h] [.a (intsA (namesE h))] := by
 refine fn_holds_is (vs := [.tmp 2]) (by kernel_rfl) Tryz.func128 rfl rfl (by kernel_rfl) (by kernel_rfl) rfl fun his => ?_
 simp only [go_sem, simprocAttr, List.length_map]
 refine awp_loopA (fun k : Nat => [(3, .own 3), (6, .a (evsA h)), (7, .a (I h.length)), (8, .a (I k))]) (fun k => [(3, .log 3 1 ((namesE (h.take k)).map ienc))]) (fun k => k ≤ h.length) (h.length - ·) 0 ?_ ?_ (Nat.zero_le _) ?_
 ·simp only [go_sem, simprocAttr]
 ·simp only [go_sem, simprocAttr] <;> rfl
 intro k j hk
 (refine rO ?_; repeat' ((with_reducible first | refine rG ?_ | (refine rS ?_ ?_ <;> intro hp) | (refine rB ?_ ?_ <;> intro hb <;> try rw [hb]) | refine rD ?_) <;> try simp only [go_sem, simprocAttr]))
 ·have hkl : k < h.length := by omega
  have hx : h[k]? = some h[k] := List.getElem?_eq_getElem hkl
  have hw := wrap_succ (n := h.length) hkl (by simp only [maxLen]; omega)
  (refine rO ?_; repeat' ((with_reducible first | refine rG ?_ | (refine rS ?_ ?_ <;> intro hp) | (refine rB ?_ ?_ <;> intro hb <;> try rw [hb]) | refine rD ?_) <;> try simp only [go_sem, simprocAttr, hx, Ev.enc_eq, hw]))
  refine call_own _ (t55 (namesE (h.take k)) h[k].tx) (by simp only [go_sem, simprocAttr, argsA, argA]) rfl ?_
  (refine rO ?_; repeat' ((with_reducible first | refine rG ?_ | (refine rS ?_ ?_ <;> intro hp) | (refine rB ?_ ?_ <;> intro hb <;> try rw [hb]) | refine rD ?_) <;> try simp only [go_sem, simprocAttr, hx, Ev.enc_eq, hw]))
  ·have hany : ((namesE (h.take k)).any fun y => h[k].tx == y) = false := by simpa using hb
   have hs : namesE (h.take (k + 1)) = namesE (h.take k) ++ [h[k].tx] := by rw [names_s hkl, nameStep, hany]; rfl
   have hle := names_le (h.take k)
   rw [List.length_take] at hle
   exact ⟨by rw [List.length_map]; omega, k + 1, by simp only [go_sem, simprocAttr], by simp only [go_sem, simprocAttr, hs, List.map_append, ienc_eq], hkl, by dsimp only; omega⟩
  ·have hany : ((namesE (h.take k)).any fun y => h[k].tx == y) = true := by simpa using hb
   have hs : namesE (h.take (k + 1)) = namesE (h.take k) := by rw [names_s hkl, nameStep, hany]; rfl
   exact ⟨k + 1, by simp only [go_sem, simprocAttr], by simp only [go_sem, simprocAttr, hs], hkl, by dsimp only; omega⟩
 ·rw [List.take_of_length_le (by omega)]
def rightH (h : List Ev) : Bool := decide (h.length ≤ 60) && h.all rightE && decide ((namesE h).length ≤ 6)
theorem t77 (h : List Ev) : Holds Tryz.prog GL 108 [evsA h] [.a (B (rightH h))] := by
 refine fn_holds (vs := [.tmp 2]) (by kernel_rfl) Tryz.func108 rfl rfl (by kernel_rfl) (by kernel_rfl) rfl ?_
 (refine rO ?_; repeat' ((with_reducible first | refine rG ?_ | (refine rS ?_ ?_ <;> intro hp) | (refine rB ?_ ?_ <;> intro hb <;> try rw [hb]) | refine rD ?_) <;> try simp only [go_sem, simprocAttr, List.length_map]))
 ·have : ¬ h.length ≤ 60 := by omega
  simp [rightH, this]
 ·have h60 : h.length ≤ 60 := by omega
  have hall : (!(h.any fun e => !rightE e)) = h.all rightE := by simp [List.any_eq_not_all_not]
  refine call_dat (t103 h 126 (fun e => !rightE e) (fun e _ => t104 e)) ?_
  (refine rO ?_; repeat' ((with_reducible first | refine rG ?_ | (refine rS ?_ ?_ <;> intro hp) | (refine rB ?_ ?_ <;> intro hb <;> try rw [hb]) | refine rD ?_) <;> try simp only [go_sem, simprocAttr, hall]))
  ·refine call_dat (t106 h h60) ?_
   (refine rO ?_; repeat' ((with_reducible first | refine rG ?_ | (refine rS ?_ ?_ <;> intro hp) | (refine rB ?_ ?_ <;> intro hb <;> try rw [hb]) | refine rD ?_) <;> try simp only [go_sem, simprocAttr, List.length_map]))
   ·simp [rightH, h60, hb, show (namesE h).length ≤ 6 by omega]
   ·simp [rightH, h60, hb, show ¬ (namesE h).length ≤ 6 by omega]
  ·simp [rightH, hb]
theorem c77 {h : List Ev} {dst : Option Tmp} {σ : S} {K : S → Prop} (hK : S.ret σ dst [.a (B (rightH h))] K) : callV Tryz.prog GL 108 [.a (evsA h)] dst σ K :=
 call_dat (t77 h) hK
end Go.VC
end
section
set_option maxRecDepth 100000
namespace Go.VC
open Go.RowKit Go.Proofs Go.IntWalk
def assoc {α : Type} : List (Int × α) → Int → Option α
 | [], _ => none
 | (k, x) :: kv, n => if k = n then some x else assoc kv n
def assocSet {α : Type} : List (Int × α) → Int → α → List (Int × α)
 | [], n, y => [(n, y)]
 | (k, x) :: kv, n, y => if k = n then (k, y) :: kv else (k, x) :: assocSet kv n y
def encI (l : List (Int × Int)) : List (Int × D) := l.map fun p => (p.1, dI p.2)
theorem kvGet_map {α : Type} (f : α → D) (n : Int) : ∀ (l : List (Int × α)), kvGet (l.map fun p => (p.1, f p.2)) n = (assoc l n).map f
 | [] => rfl
 | (k, x) :: l => by
  simp only [List.map_cons, kvGet, assoc, kvGet_map f n l]
  split <;> rfl
theorem kvSet_map {α : Type} (f : α → D) (n : Int) (y : α) : ∀ (l : List (Int × α)), kvSet (l.map fun p => (p.1, f p.2)) n (f y) = (assocSet l n y).map fun p => (p.1, f p.2)
 | [] => rfl
 | (k, x) :: l => by
  simp only [List.map_cons, kvSet, assocSet, kvSet_map f n y l]
  split <;> rfl
def stOf (now : List (Int × Int)) (n : Int) : Int := (assoc now n).getD 0
theorem kvg_int (l : List (Int × Int)) (n : Int) : (kvGet (encI l) n).getD (.v (.int .i64 0)) = .v (.int .i64 ((assoc l n).getD 0)) := by
 rw [encI, kvGet_map dI]; cases assoc l n <;> rfl
theorem kvg_some (l : List (Int × Int)) (n : Int) : (kvGet (encI l) n).isSome = (assoc l n).isSome := by
 rw [encI, kvGet_map dI]; cases assoc l n <;> rfl
theorem kvs_int (l : List (Int × Int)) (n y : Int) : kvSet (encI l) n (.v (.int .i64 y)) = encI (assocSet l n y) := kvSet_map dI n y l
def movesL : List (Int × List (Int × Int)) := [(0, [(0, 1)]), (1, [(1, 2), (9, 7)]), (2, [(2, 3), (4, 4), (6, 5), (8, 6)]), (3, [(3, 2), (9, 7)]), (4, [(5, 2), (9, 7)]), (5, [(7, 7), (9, 7)]), (6, [(9, 7)])]
def movesKV : List (Int × D) := movesL.map fun p => (p.1, .mp (encI p.2))
def movesOf (s : Int) : List (Int × Int) := (assoc movesL s).getD []
theorem kvg_mv (s : Int) : (kvGet movesKV s).getD (.mp []) = .mp (encI (movesOf s)) := by
 rw [movesKV, kvGet_map (fun x => D.mp (encI x)), movesOf]; cases assoc movesL s <;> rfl
theorem t79 : Holds Tryz.prog GL 129 [] [.a (.d (.mp movesKV))] := by
 refine fn_holds (vs := [.tmp 0]) (by kernel_rfl) Tryz.func129 rfl rfl (by kernel_rfl) (by kernel_rfl) rfl ?_
 simp only [go_sem, simprocAttr]
 rfl
theorem c79 {dst : Option Tmp} {σ : S} {K : S → Prop} (hK : S.ret σ dst [.a (.d (.mp movesKV))] K) : callV Tryz.prog GL 129 [] dst σ K := call_dat t79 hK
def nextS (now : List (Int × Int)) (e : Ev) : Option Int := assoc (movesOf (stOf now e.tx)) e.kind
def stepN (now : List (Int × Int)) (e : Ev) : List (Int × Int) := assocSet now e.tx ((nextS now e).getD 0)
def runF : List Ev → List (Int × Int) → Nat × List (Int × Int)
 | [], now => (0, now)
 | e :: h, now => if (nextS now e).isSome then ((runF h (stepN now e)).1 + 1, (runF h (stepN now e)).2) else (0, now)
theorem runF_le : ∀ (h : List Ev) (now : List (Int × Int)), (runF h now).1 ≤ h.length
 | [], _ => Nat.le_refl _
 | e :: h, now => by
  simp only [runF]
  split
  ·have := runF_le h (stepN now e); simp only [List.length_cons]; omega
  ·exact Nat.zero_le _
theorem t78 (h : List Ev) : Holds Tryz.prog GL 109 [evsA h] [.a (I ((runF h []).1 : Int)), .a (.d (.mp (encI (runF h []).2)))] := by
 refine fn_holds_is (vs := [.tmp 2, .tmp 3]) (by kernel_rfl) Tryz.func109 rfl rfl (by kernel_rfl) (by kernel_rfl) rfl fun his => ?_
 have hlen := his.1.len
 rw [List.length_map] at hlen
 (refine rO ?_; repeat' ((with_reducible first | refine rG ?_ | (refine rS ?_ ?_ <;> intro hp) | (refine rB ?_ ?_ <;> intro hb <;> try rw [hb]) | refine rD ?_ | apply c79) <;> try simp only [go_sem, simprocAttr, List.length_map]))
 refine awp_loopA (fun g : Nat × List (Int × Int) => [(0, .a (evsA h)), (4, .a (.d (.mp movesKV))), (5, .omp 11), (12, .a (evsA h)), (13, .a (I h.length)), (14, .a (I g.1))]) (fun g => [(11, .mpo (encI g.2))])
  (fun g => g.1 ≤ h.length ∧ runF h [] = (g.1 + (runF (h.drop g.1) g.2).1, (runF (h.drop g.1) g.2).2)) (h.length - ·.1) (0, []) ?_ ?_ ⟨Nat.zero_le _, by simp⟩ ?_
 ·simp only [go_sem, simprocAttr]
 ·simp only [go_sem, simprocAttr] <;> rfl
 rintro ⟨k, now⟩ j ⟨hk, hr⟩
 dsimp only at hk hr
 (refine rO ?_; repeat' ((with_reducible first | refine rG ?_ | (refine rS ?_ ?_ <;> intro hp) | (refine rB ?_ ?_ <;> intro hb <;> try rw [hb]) | refine rD ?_) <;> try simp only [go_sem, simprocAttr, List.length_map]))
 ·have hkl : k < h.length := by omega
  have hx : h[k]? = some h[k] := List.getElem?_eq_getElem hkl
  have hw := wrap_succ hkl hlen
  rw [List.drop_eq_getElem_cons hkl] at hr
  (refine rO ?_; repeat' ((with_reducible first | refine rG ?_ | (refine rS ?_ ?_ <;> intro hp) | (refine rB ?_ ?_ <;> intro hb <;> try rw [hb]) | refine rD ?_) <;> try simp only [go_sem, simprocAttr, hx, Ev.enc_eq, hw, kvg_int, kvg_mv, kvg_some, kvs_int, List.length_map]))
  ·have hn : (nextS now h[k]).isSome = false := by
    show (assoc (movesOf ((assoc now h[k].tx).getD 0)) h[k].kind).isSome = false
    simpa using hb
   simp only [runF, hn, Bool.false_eq_true, if_false, Nat.add_zero] at hr
   rw [hr]; exact ⟨rfl, rfl⟩
  ·have hn : (nextS now h[k]).isSome = true := by
    show (assoc (movesOf ((assoc now h[k].tx).getD 0)) h[k].kind).isSome = true
    simpa using hb
   simp only [runF, hn, if_true] at hr
   refine ⟨(k + 1, stepN now h[k]), by simp only [go_sem, simprocAttr], by simp only [go_sem, simprocAttr]; rfl, ⟨hkl, ?_⟩, by dsimp only; omega⟩
   rw [hr]; ext <;> simp; omega
 ·have hkl : h.length ≤ k := by omega
  rw [List.drop_eq_nil_of_le hkl] at hr
  simp only [runF, Nat.add_zero] at hr
  rw [hr]; exact ⟨by simp; omega, rfl⟩
theorem c78 {h : List Ev} {dst : Option Tmp} {σ : S} {K : S → Prop} (hK : S.ret σ dst [.a (I ((runF h []).1 : Int)), .a (.d (.mp (encI (runF h []).2)))] K) : callV Tryz.prog GL 109 [.a (evsA h)] dst σ K :=
 call_dat (t78 h) hK
def checkI (h : List Ev) : Int := if rightH h then ((runF h []).1 : Int) else 0
def checkE (h : List Ev) : Int := if rightH h then (if (runF h []).1 < h.length then 6 else 0) else 1
theorem t45 (h : List Ev) : Holds Tryz.prog GL 76 [evsA h] [.a (I (checkI h)), .a (I (checkE h))] := by
 refine fn_holds (vs := [.tmp 2, .tmp 3]) (by kernel_rfl) Tryz.func76 rfl rfl (by kernel_rfl) (by kernel_rfl) rfl ?_
 (refine rO ?_; repeat' ((with_reducible first | refine rG ?_ | (refine rS ?_ ?_ <;> intro hp) | (refine rB ?_ ?_ <;> intro hb <;> try rw [hb]) | refine rD ?_ | apply c77 | apply c78) <;> try simp only [go_sem, simprocAttr, List.length_map]))
 ·have hb : rightH h = false := by simpa using hb
  simp [checkI, checkE, hb]
 ·have hb : rightH h = true := by simpa using hb
  simp [checkI, checkE, hb, show (runF h []).1 < h.length by omega]
 ·have hb : rightH h = true := by simpa using hb
  simp [checkI, checkE, hb, show ¬ (runF h []).1 < h.length by omega]
theorem c45 {h : List Ev} {dst : Option Tmp} {σ : S} {K : S → Prop} (hK : S.ret σ dst [.a (I (checkI h)), .a (I (checkE h))] K) : callV Tryz.prog GL 76 [.a (evsA h)] dst σ K :=
 call_dat (t45 h) hK
end Go.VC
end
section
set_option maxRecDepth 100000
namespace Go.VC
open Go.RowKit Go.Proofs Go.IntWalk
theorem t109 (n : Int) : Holds Tryz.prog GL 116 [I n] [.a (B (decide (-2147483648 ≤ n) && decide (n ≤ 2147483647)))] := by
 refine fn_holds (vs := [.tmp 2]) (by kernel_rfl) Tryz.func116 rfl rfl (by kernel_rfl) (by kernel_rfl) rfl ?_
 (refine rO ?_; repeat' ((with_reducible first | refine rG ?_ | (refine rS ?_ ?_ <;> intro hp) | (refine rB ?_ ?_ <;> intro hb <;> try rw [hb]) | refine rD ?_) <;> try simp only [go_sem, simprocAttr]))
 all_goals (simp_all <;> omega)
theorem c109 {n : Int} {dst : Option Tmp} {σ : S} {K : S → Prop} (hK : S.ret σ dst [.a (B (decide (-2147483648 ≤ n) && decide (n ≤ 2147483647)))] K) : callV Tryz.prog GL 116 [.a (I n)] dst σ K :=
 call_dat (t109 n) hK
theorem t110 (n : Int) : Holds Tryz.prog GL 117 [I n] [.a (B (n == 2 || n == 4))] := by
 refine fn_holds (vs := [.tmp 2]) (by kernel_rfl) Tryz.func117 rfl rfl (by kernel_rfl) (by kernel_rfl) rfl ?_
 (refine rO ?_; repeat' ((with_reducible first | refine rG ?_ | (refine rS ?_ ?_ <;> intro hp) | (refine rB ?_ ?_ <;> intro hb <;> try rw [hb]) | refine rD ?_) <;> try simp only [go_sem, simprocAttr]))
 all_goals (simp_all)
theorem c110 {n : Int} {dst : Option Tmp} {σ : S} {K : S → Prop} (hK : S.ret σ dst [.a (B (n == 2 || n == 4))] K) : callV Tryz.prog GL 117 [.a (I n)] dst σ K :=
 call_dat (t110 n) hK
theorem t111 (n : Int) : Holds Tryz.prog GL 118 [I n] [.a (B (n == 3 || n == 4))] := by
 refine fn_holds (vs := [.tmp 2]) (by kernel_rfl) Tryz.func118 rfl rfl (by kernel_rfl) (by kernel_rfl) rfl ?_
 (refine rO ?_; repeat' ((with_reducible first | refine rG ?_ | (refine rS ?_ ?_ <;> intro hp) | (refine rB ?_ ?_ <;> intro hb <;> try rw [hb]) | refine rD ?_) <;> try simp only [go_sem, simprocAttr]))
 all_goals (simp_all)
theorem c111 {n : Int} {dst : Option Tmp} {σ : S} {K : S → Prop} (hK : S.ret σ dst [.a (B (n == 3 || n == 4))] K) : callV Tryz.prog GL 118 [.a (I n)] dst σ K :=
 call_dat (t111 n) hK
def refRight (e : Ev) : Bool :=
 !(decide (e.kind < 0) || decide (e.kind > 9) || decide (e.tx < 0) || decide (e.tx > 9999) || decide (e.var < 0) || decide (e.var > 7) || !(decide (-2147483648 ≤ e.val) && decide (e.val ≤ 2147483647))) &&
 ((e.kind == 2 || e.kind == 4) || e.var == 0) && ((e.kind == 3 || e.kind == 4) || e.val == 0)
theorem t82 (e : Ev) : Holds Tryz.prog GL 88 [e.a] [.a (B (refRight e))] := by
 refine fn_holds (vs := [.tmp 2]) (by kernel_rfl) Tryz.func88 rfl rfl (by kernel_rfl) (by kernel_rfl) rfl ?_
 obtain ⟨kd, tx, vr, vl⟩ := e
 generalize hr : refRight ⟨kd, tx, vr, vl⟩ = r
 simp only [refRight] at hr
 generalize hn : (decide (-2147483648 ≤ vl) && decide (vl ≤ 2147483647)) = b1 at hr
 generalize h1 : (kd == 2 || kd == 4) = b2 at hr
 generalize h2 : (kd == 3 || kd == 4) = b3 at hr
 (refine rO ?_; repeat' ((with_reducible first | refine rG ?_ | (refine rS ?_ ?_ <;> intro hp) | (refine rB ?_ ?_ <;> intro hb <;> try rw [hb]) | refine rD ?_ | apply c109 | apply c110 | apply c111) <;> try simp only [go_sem, simprocAttr, hn, h1, h2]))
 all_goals (subst hr; simp_all)
theorem c82 {e : Ev} {dst : Option Tmp} {σ : S} {K : S → Prop} (hK : S.ret σ dst [.a (B (refRight e))] K) : callV Tryz.prog GL 88 [.a (e.a)] dst σ K :=
 call_dat (t82 e) hK
theorem t94 (l : List Int) (x : Int) : Holds Tryz.prog GL 69 [intsA l, I x] [.a (B (l.any (fun y => x == y)))] := by
 refine fn_holds_is (vs := [.tmp 4]) (by kernel_rfl) Tryz.func69 rfl rfl (by kernel_rfl) (by kernel_rfl) rfl fun his => ?_
 have hlen := his.1.len
 rw [List.length_map] at hlen
 simp only [go_sem, simprocAttr, List.length_map]
 refine awp_loopA (fun k : Nat => [(1, .a (I x)), (7, .a (intsA l)), (8, .a (I l.length)), (9, .a (I k))]) (fun _ => []) (fun k => k ≤ l.length ∧ noneTo (fun y => x == y) l k) (l.length - ·) 0 ?_ ?_ ⟨Nat.zero_le _, noneTo_0⟩ ?_
 ·simp only [go_sem, simprocAttr] <;> rfl
 ·simp only [go_sem, simprocAttr]
 intro k j ⟨hk, hl⟩
 (refine rO ?_; repeat' ((with_reducible first | refine rG ?_ | (refine rS ?_ ?_ <;> intro hp) | (refine rB ?_ ?_ <;> intro hb <;> try rw [hb]) | refine rD ?_) <;> try simp only [go_sem, simprocAttr]))
 ·have hkl : k < l.length := by omega
  have hx : l[k]? = some l[k] := List.getElem?_eq_getElem hkl
  have hw := wrap_succ hkl hlen
  (refine rO ?_; repeat' ((with_reducible first | refine rG ?_ | (refine rS ?_ ?_ <;> intro hp) | (refine rB ?_ ?_ <;> intro hb <;> try rw [hb]) | refine rD ?_) <;> try simp only [go_sem, simprocAttr, hx, ienc_eq, hw]))
  ·exact (List.any_eq_true.2 ⟨_, List.getElem_mem hkl, by simpa using hp.symm⟩).symm
  ·exact ⟨k + 1, by simp only [go_sem, simprocAttr], by simp only [go_sem, simprocAttr], ⟨hkl, noneTo_s hkl hl (by simpa using fun h => hp h.symm)⟩, by dsimp only; omega⟩
 ·have : l.any (fun y => x == y) = false := by
   rw [List.any_eq_false]; intro y hy
   have := hl y (by rw [List.take_of_length_le (by omega)]; exact hy)
   simpa using this
  rw [this]
theorem t64 (h : List Ev) (hl60 : h.length ≤ 60) : Holds Tryz.prog GL 64 [evsA h] [.a (intsA (namesE h))] := by
 refine fn_holds_is (vs := [.tmp 2]) (by kernel_rfl) Tryz.func64 rfl rfl (by kernel_rfl) (by kernel_rfl) rfl fun his => ?_
 simp only [go_sem, simprocAttr, List.length_map]
 refine awp_loopA (fun k : Nat => [(3, .own 6), (7, .a (evsA h)), (8, .a (I h.length)), (9, .a (I k))]) (fun k => [(6, .log 3 1 ((namesE (h.take k)).map ienc))]) (fun k => k ≤ h.length) (h.length - ·) 0 ?_ ?_ (Nat.zero_le _) ?_
 ·simp only [go_sem, simprocAttr] <;> rfl
 ·simp only [go_sem, simprocAttr] <;> rfl
 intro k j hk
 (refine rO ?_; repeat' ((with_reducible first | refine rG ?_ | (refine rS ?_ ?_ <;> intro hp) | (refine rB ?_ ?_ <;> intro hb <;> try rw [hb]) | refine rD ?_) <;> try simp only [go_sem, simprocAttr]))
 ·have hkl : k < h.length := by omega
  have hx : h[k]? = some h[k] := List.getElem?_eq_getElem hkl
  have hw := wrap_succ (n := h.length) hkl (by simp only [maxLen]; omega)
  (refine rO ?_; repeat' ((with_reducible first | refine rG ?_ | (refine rS ?_ ?_ <;> intro hp) | (refine rB ?_ ?_ <;> intro hb <;> try rw [hb]) | refine rD ?_) <;> try simp only [go_sem, simprocAttr, hx, Ev.enc_eq, hw]))
  refine call_own _ (t94 (namesE (h.take k)) h[k].tx) (by simp only [go_sem, simprocAttr, argsA, argA]) rfl ?_
  (refine rO ?_; repeat' ((with_reducible first | refine rG ?_ | (refine rS ?_ ?_ <;> intro hp) | (refine rB ?_ ?_ <;> intro hb <;> try rw [hb]) | refine rD ?_) <;> try simp only [go_sem, simprocAttr, hx, Ev.enc_eq, hw]))
  ·have hany : ((namesE (h.take k)).any fun y => h[k].tx == y) = false := by simpa using hb
   have hs : namesE (h.take (k + 1)) = namesE (h.take k) ++ [h[k].tx] := by rw [names_s hkl, nameStep, hany]; rfl
   have hle := names_le (h.take k)
   rw [List.length_take] at hle
   exact ⟨by rw [List.length_map]; omega, k + 1, by simp only [go_sem, simprocAttr], by simp only [go_sem, simprocAttr, hs, List.map_append, ienc_eq], hkl, by dsimp only; omega⟩
  ·have hany : ((namesE (h.take k)).any fun y => h[k].tx == y) = true := by simpa using hb
   have hs : namesE (h.take (k + 1)) = namesE (h.take k) := by rw [names_s hkl, nameStep, hany]; rfl
   exact ⟨k + 1, by simp only [go_sem, simprocAttr], by simp only [go_sem, simprocAttr, hs], hkl, by dsimp only; omega⟩
 ·rw [List.take_of_length_le (by omega)]
def refRightH (h : List Ev) : Bool := h.all refRight && decide (h.length ≤ 60) && decide ((namesE h).length ≤ 6)
theorem t46 (h : List Ev) : Holds Tryz.prog GL 55 [evsA h] [.a (B (refRightH h))] := by
 refine fn_holds_is (vs := [.tmp 2]) (by kernel_rfl) Tryz.func55 rfl rfl (by kernel_rfl) (by kernel_rfl) rfl fun his => ?_
 have hlen := his.1.len
 rw [List.length_map] at hlen
 simp only [go_sem, simprocAttr, List.length_map]
 refine awp_loopA (fun k : Nat => [(0, .a (evsA h)), (5, .a (evsA h)), (6, .a (I h.length)), (7, .a (I k))]) (fun _ => []) (fun k => k ≤ h.length ∧ noneTo (fun e => !refRight e) h k) (h.length - ·) 0 ?_ ?_ ⟨Nat.zero_le _, noneTo_0⟩ ?_
 ·simp only [go_sem, simprocAttr] <;> rfl
 ·simp only [go_sem, simprocAttr]
 intro k j ⟨hk, hl⟩
 (refine rO ?_; repeat' ((with_reducible first | refine rG ?_ | (refine rS ?_ ?_ <;> intro hp) | (refine rB ?_ ?_ <;> intro hb <;> try rw [hb]) | refine rD ?_) <;> try simp only [go_sem, simprocAttr, List.length_map]))
 ·have hkl : k < h.length := by omega
  have hx : h[k]? = some h[k] := List.getElem?_eq_getElem hkl
  have hw := wrap_succ hkl hlen
  (refine rO ?_; repeat' ((with_reducible first | refine rG ?_ | (refine rS ?_ ?_ <;> intro hp) | (refine rB ?_ ?_ <;> intro hb <;> try rw [hb]) | refine rD ?_ | apply c82) <;> try simp only [go_sem, simprocAttr, hx, Ev.enc_eq, hw]))
  ·have hbad : h.all refRight = false := by
    rw [List.all_eq_false]; exact ⟨_, List.getElem_mem hkl, by simpa using hb⟩
   simp [refRightH, hbad]
  ·exact ⟨k + 1, by simp only [go_sem, simprocAttr], by simp only [go_sem, simprocAttr], ⟨hkl, noneTo_s hkl hl hb⟩, by dsimp only; omega⟩
 ·have hall : h.all refRight = true := by
   rw [List.all_eq_true]; intro e he
   have := hl e (by rw [List.take_of_length_le (by omega)]; exact he)
   simpa using this
  have h60 : h.length ≤ 60 := by omega
  refine call_dat (t64 h h60) ?_
  (refine rO ?_; repeat' ((with_reducible first | refine rG ?_ | (refine rS ?_ ?_ <;> intro hp) | (refine rB ?_ ?_ <;> intro hb <;> try rw [hb]) | refine rD ?_) <;> try simp only [go_sem, simprocAttr, List.length_map]))
  ·simp [refRightH, hall, h60, show (namesE h).length ≤ 6 by omega]
  ·simp [refRightH, hall, h60, show ¬ (namesE h).length ≤ 6 by omega]
 ·have hall : h.all refRight = true := by
   rw [List.all_eq_true]; intro e he
   have := hl e (by rw [List.take_of_length_le (by omega)]; exact he)
   simpa using this
  simp [refRightH, show ¬ h.length ≤ 60 by omega]
theorem c46 {h : List Ev} {dst : Option Tmp} {σ : S} {K : S → Prop} (hK : S.ret σ dst [.a (B (refRightH h))] K) : callV Tryz.prog GL 55 [.a (evsA h)] dst σ K :=
 call_dat (t46 h) hK
def may (last kind : Int) : Bool :=
 if last = -1 then kind == 0 else if last = 0 then kind == 1 || kind == 9 else if last = 1 ∨ last = 3 ∨ last = 5 then kind == 2 || kind == 4 || kind == 6 || kind == 8 else
 if last = 2 then kind == 3 || kind == 9 else if last = 4 then kind == 5 || kind == 9 else if last = 6 then kind == 7 || kind == 9 else if last = 8 then kind == 9 else false
theorem t81 (l k : Int) : Holds Tryz.prog GL 89 [I l, I k] [.a (B (may l k))] := by
 refine fn_holds (vs := [.tmp 4]) (by kernel_rfl) Tryz.func89 rfl rfl (by kernel_rfl) (by kernel_rfl) rfl ?_
 generalize hr : may l k = r
 unfold may at hr
 (refine rO ?_; repeat' ((with_reducible first | refine rG ?_ | (refine rS ?_ ?_ <;> intro hp) | (refine rB ?_ ?_ <;> intro hb <;> try rw [hb]) | refine rD ?_) <;> try simp only [go_sem, simprocAttr]))
 all_goals (subst hr; simp_all)
theorem q81 {l k : Int} {σ : S} {KR : R → Prop} (hK : KR (retR [(B (may l k))])) : callVQ Tryz.prog GL 89 [.a (I l), .a (I k)] σ KR :=
 callQ_dat (res := [(B (may l k))]) (t81 l k) hK
def lastStep (tx : Int) (out : Int) (e : Ev) : Int := if e.tx = tx then e.kind else out
def lastK (h : List Ev) (tx : Int) : Int := h.foldl (lastStep tx) (-1)
theorem last_s {h : List Ev} {k : Nat} {tx : Int} (hk : k < h.length) : lastK (h.take (k + 1)) tx = lastStep tx (lastK (h.take k) tx) h[k] := by
 rw [List.take_succ_eq_append_getElem hk, lastK, List.foldl_append]; rfl
theorem t66 (h : List Ev) (tx : Int) : Holds Tryz.prog GL 66 [evsA h, I tx] [.a (I (lastK h tx))] := by
 refine fn_holds_is (vs := [.tmp 4]) (by kernel_rfl) Tryz.func66 rfl rfl (by kernel_rfl) (by kernel_rfl) rfl fun his => ?_
 have hlen := his.1.len
 rw [List.length_map] at hlen
 simp only [go_sem, simprocAttr, List.length_map]
 refine awp_loopA (fun k : Nat => [(1, .a (I tx)), (5, .a (I (lastK (h.take k) tx))), (8, .a (evsA h)), (9, .a (I h.length)), (10, .a (I k))]) (fun _ => []) (fun k => k ≤ h.length) (h.length - ·) 0 ?_ ?_ (Nat.zero_le _) ?_
 ·simp only [go_sem, simprocAttr] <;> rfl
 ·simp only [go_sem, simprocAttr]
 intro k j hk
 (refine rO ?_; repeat' ((with_reducible first | refine rG ?_ | (refine rS ?_ ?_ <;> intro hp) | (refine rB ?_ ?_ <;> intro hb <;> try rw [hb]) | refine rD ?_) <;> try simp only [go_sem, simprocAttr]))
 ·have hkl : k < h.length := by omega
  have hx : h[k]? = some h[k] := List.getElem?_eq_getElem hkl
  have hw := wrap_succ hkl hlen
  (refine rO ?_; repeat' ((with_reducible first | refine rG ?_ | (refine rS ?_ ?_ <;> intro hp) | (refine rB ?_ ?_ <;> intro hb <;> try rw [hb]) | refine rD ?_) <;> try simp only [go_sem, simprocAttr, hx, Ev.enc_eq, hw]))
  ·have hs : lastK (h.take (k + 1)) tx = h[k].kind := by rw [last_s hkl, lastStep, if_pos hp]
   exact ⟨k + 1, by simp only [go_sem, simprocAttr, hs], by simp only [go_sem, simprocAttr], hkl, by dsimp only; omega⟩
  ·have hs : lastK (h.take (k + 1)) tx = lastK (h.take k) tx := by rw [last_s hkl, lastStep, if_neg hp]
   exact ⟨k + 1, by simp only [go_sem, simprocAttr, hs], by simp only [go_sem, simprocAttr], hkl, by dsimp only; omega⟩
 ·rw [List.take_of_length_le (by omega)]
theorem c66 {h : List Ev} {tx : Int} {dst : Option Tmp} {σ : S} {K : S → Prop} (hK : S.ret σ dst [.a (I (lastK h tx))] K) : callV Tryz.prog GL 66 [.a (evsA h), .a (I tx)] dst σ K :=
 call_dat (t66 h tx) hK
theorem q66 {h : List Ev} {tx : Int} {σ : S} {KR : R → Prop} (hK : KR (retR [(I (lastK h tx))])) : callVQ Tryz.prog GL 66 [.a (evsA h), .a (I tx)] σ KR :=
 callQ_dat (res := [(I (lastK h tx))]) (t66 h tx) hK
def badAt (h : List Ev) (k : Nat) : Bool := match h[k]? with
 | some e => !may (lastK (h.take k) e.tx) e.kind
 | none => false
def firstI (h : List Ev) : Nat := ((List.range h.length).find? (badAt h)).getD h.length
theorem first_hit {h : List Ev} {k : Nat} (hk : k < h.length) (hl : ∀ i, i < k → badAt h i = false) (hb : badAt h k = true) : firstI h = k := by
 have : (List.range h.length).find? (badAt h) = some k := by
  rw [List.find?_range_eq_some]
  exact ⟨hb, by simpa using hk, fun j hj => by simpa using hl j hj⟩
 simp [firstI, this]
theorem first_none {h : List Ev} {k : Nat} (hk : h.length ≤ k) (hl : ∀ i, i < k → badAt h i = false) : firstI h = h.length := by
 have : (List.range h.length).find? (badAt h) = none := by
  rw [List.find?_range_eq_none]
  exact fun i hi => by simpa using hl i (by omega)
 simp [firstI, this]
theorem t47 (h : List Ev) : Holds Tryz.prog GL 56 [evsA h] [.a (I (firstI h : Int))] := by
 refine fn_holds_is (vs := [.tmp 2]) (by kernel_rfl) Tryz.func56 rfl rfl (by kernel_rfl) (by kernel_rfl) rfl fun his => ?_
 have hlen := his.1.len
 rw [List.length_map] at hlen
 simp only [go_sem, simprocAttr, List.length_map]
 refine awp_loopA (fun k : Nat => [(0, .a (evsA h)), (5, .a (evsA h)), (6, .a (I h.length)), (7, .a (I k))]) (fun _ => []) (fun k => k ≤ h.length ∧ ∀ i, i < k → badAt h i = false) (h.length - ·) 0 ?_ ?_ ⟨Nat.zero_le _, fun i hi => by omega⟩ ?_
 ·simp only [go_sem, simprocAttr] <;> rfl
 ·simp only [go_sem, simprocAttr]
 intro k j ⟨hk, hl⟩
 (refine rO ?_; repeat' ((with_reducible first | refine rG ?_ | (refine rS ?_ ?_ <;> intro hp) | (refine rB ?_ ?_ <;> intro hb <;> try rw [hb]) | refine rD ?_) <;> try simp only [go_sem, simprocAttr, List.length_map]))
 ·have hkl : k < h.length := by omega
  have hx : h[k]? = some h[k] := List.getElem?_eq_getElem hkl
  have hw := wrap_succ hkl hlen
  have h1 : (k : Int) ≤ (h.length : Int) := by omega
  have hb0 : badAt h k = !may (lastK (h.take k) h[k].tx) h[k].kind := by simp [badAt, hx]
  (refine rO ?_; repeat' ((with_reducible first | refine rG ?_ | (refine rS ?_ ?_ <;> intro hp) | (refine rB ?_ ?_ <;> intro hb <;> try rw [hb]) | refine rD ?_ | apply q66 | apply q81) <;> try simp only [go_sem, simprocAttr, hx, Ev.enc_eq, hw, h1, Int.le_refl, Int.toNat_zero, List.length_map, ← List.map_take]))
  ·rw [first_hit hkl hl (by rw [hb0]; exact hb)]
  ·refine ⟨k + 1, by simp only [go_sem, simprocAttr], by simp only [go_sem, simprocAttr], ⟨hkl, fun i hi => ?_⟩, by dsimp only; omega⟩
   by_cases hik : i < k
   ·exact hl i hik
   ·obtain rfl : i = k := by omega
    rw [hb0]; exact hb
 ·rw [first_none (by omega) hl]
theorem c47 {h : List Ev} {dst : Option Tmp} {σ : S} {K : S → Prop} (hK : S.ret σ dst [.a (I (firstI h : Int))] K) : callV Tryz.prog GL 56 [.a (evsA h)] dst σ K :=
 call_dat (t47 h) hK
def whyI (h : List Ev) : Int := if refRightH h then (if firstI h < h.length then 6 else 0) else 1
theorem t19 (h : List Ev) : Holds Tryz.prog GL 29 [evsA h] [.a (I (whyI h))] := by
 refine fn_holds (vs := [.tmp 2]) (by kernel_rfl) Tryz.func29 rfl rfl (by kernel_rfl) (by kernel_rfl) rfl ?_
 (refine rO ?_; repeat' ((with_reducible first | refine rG ?_ | (refine rS ?_ ?_ <;> intro hp) | (refine rB ?_ ?_ <;> intro hb <;> try rw [hb]) | refine rD ?_ | apply c46 | apply c47) <;> try simp only [go_sem, simprocAttr, List.length_map]))
 ·have hb : refRightH h = false := by simpa using hb
  simp [whyI, hb]
 ·have hb : refRightH h = true := by simpa using hb
  simp [whyI, hb, show firstI h < h.length by omega]
 ·have hb : refRightH h = true := by simpa using hb
  simp [whyI, hb, show ¬ firstI h < h.length by omega]
theorem t34 (a b : List Int) : Holds Tryz.prog GL 38 [intsA a, intsA b] [.a (B (a == b))] := by
 refine fn_holds_is (vs := [.tmp 4]) (by kernel_rfl) Tryz.func38 rfl rfl (by kernel_rfl) (by kernel_rfl) rfl fun his => ?_
 have hlen := his.1.len
 rw [List.length_map] at hlen
 (refine rO ?_; repeat' ((with_reducible first | refine rG ?_ | (refine rS ?_ ?_ <;> intro hp) | (refine rB ?_ ?_ <;> intro hb <;> try rw [hb]) | refine rD ?_) <;> try simp only [go_sem, simprocAttr, List.length_map]))
 ·have hab := hp
  refine awp_loopA (fun k : Nat => [(0, .a (intsA a)), (1, .a (intsA b)), (12, .a (I a.length)), (13, .a (I k))]) (fun _ => []) (fun k => k ≤ a.length ∧ a.take k = b.take k) (a.length - ·) 0 ?_ ?_ ⟨Nat.zero_le _, rfl⟩ ?_
  ·simp only [go_sem, simprocAttr] <;> rfl
  ·simp only [go_sem, simprocAttr]
  intro k j ⟨hk, hl⟩
  (refine rO ?_; repeat' ((with_reducible first | refine rG ?_ | (refine rS ?_ ?_ <;> intro hp) | (refine rB ?_ ?_ <;> intro hb <;> try rw [hb]) | refine rD ?_) <;> try simp only [go_sem, simprocAttr]))
  ·have hkl : k < a.length := by omega
   have hkb : k < b.length := by omega
   have hx : a[k]? = some a[k] := List.getElem?_eq_getElem hkl
   have hy : b[k]? = some b[k] := List.getElem?_eq_getElem hkb
   have hw := wrap_succ hkl hlen
   (refine rO ?_; repeat' ((with_reducible first | refine rG ?_ | (refine rS ?_ ?_ <;> intro hp) | (refine rB ?_ ?_ <;> intro hb <;> try rw [hb]) | refine rD ?_) <;> try simp only [go_sem, simprocAttr, hx, hy, ienc_eq, hw]))
   ·exact ⟨k + 1, by simp only [go_sem, simprocAttr], by simp only [go_sem, simprocAttr], ⟨hkl, by rw [List.take_succ_eq_append_getElem hkl, List.take_succ_eq_append_getElem hkb, hl, hp]⟩, by dsimp only; omega⟩
   ·have : a ≠ b := fun e => by subst e; exact hp rfl
    simp [this]
  ·have : a = b := by
    rw [List.take_of_length_le (by omega), List.take_of_length_le (by omega)] at hl; exact hl
   simp [this]
 ·have : a ≠ b := fun e => by subst e; exact hp rfl
  simp [this]
end Go.VC
end
section
set_option maxRecDepth 100000
namespace Go.VC
open Go.RowKit Go.Proofs Go.IntWalk
def nextE (h : List Ev) : Int := checkE h
theorem nodup_le : ∀ (n : Nat) (l : List Nat), l.Nodup → (∀ i ∈ l, i < n) → l.length ≤ n
 | 0, l, _, hl => by
  cases l with
  | nil => exact Nat.le_refl _
  | cons x l => exact absurd (hl x (by simp)) (by omega)
 | n + 1, l, hd, hl => by
  by_cases hn : n ∈ l
  ·have h1 := nodup_le n (l.erase n) (hd.erase n) fun i hi => by
    have := hd.mem_erase_iff.1 hi
    have := hl i this.2; omega
   rw [List.length_erase_of_mem hn] at h1; omega
  ·have := nodup_le n l hd fun i hi => by
    have h2 := hl i hi
    have : i ≠ n := fun e => hn (e ▸ hi)
    omega
   omega
end Go.VC
end
section
set_option maxRecDepth 100000
namespace Go.VC
open Go.RowKit Go.Proofs Go.IntWalk
theorem call_rest {P : Program} {gl : Nat → Option (List D)} {f : FuncId} {rs : List R} (ys : List A) {res : List Rv} {dst : Option Tmp} {σ : S} {K : S → Prop} (hH : Holds P gl f ys res) (h : S.rest σ rs [] fun σ' xs => xs = ys ∧ S.ret σ' dst res K) : callV P gl f rs dst σ K :=
 .inr (.inl ⟨res, rest_mono (fun σ xs ⟨e, k⟩ => ⟨e ▸ hH, k⟩) _ h⟩)
def nx (h : List Ev) (tx : Int) (k : Nat) : List Int := ((List.range k).filter fun i : Nat => may (lastK h tx) (i : Int)).map fun i : Nat => (i : Int)
theorem right_eq (e : Ev) : rightE e = refRight e := by
 obtain ⟨kd, tx, vr, vl⟩ := e
 by_cases hk : 0 ≤ kd ∧ kd ≤ 9
 ·have hc : kd = 0 ∨ kd = 1 ∨ kd = 2 ∨ kd = 3 ∨ kd = 4 ∨ kd = 5 ∨ kd = 6 ∨ kd = 7 ∨ kd = 8 ∨ kd = 9 := by omega
  rw [Bool.eq_iff_iff]
  rcases hc with rfl | rfl | rfl | rfl | rfl | rfl | rfl | rfl | rfl | rfl <;> simp [rightE, refRight, kindB] <;> omega
 ·rw [Bool.eq_iff_iff]
  simp [rightE, refRight]; omega
theorem rightH_eq (h : List Ev) : rightH h = refRightH h := by
 have : h.all rightE = h.all refRight := by rw [show rightE = refRight from funext right_eq]
 unfold rightH refRightH
 rw [this]
 cases h.all refRight <;> simp
def stK (l : Int) : Int := if l = -1 then 0 else if l = 0 then 1 else if l = 1 ∨ l = 3 ∨ l = 5 then 2 else if l = 2 then 3 else if l = 4 then 4 else if l = 6 then 5 else if l = 8 then 6 else 7
theorem moves_may (l k : Int) (h1 : -1 ≤ l) (h2 : l ≤ 9) : assoc (movesOf (stK l)) k = if may l k = true then some (stK k) else none := by
 have hc : l = -1 ∨ l = 0 ∨ l = 1 ∨ l = 2 ∨ l = 3 ∨ l = 4 ∨ l = 5 ∨ l = 6 ∨ l = 7 ∨ l = 8 ∨ l = 9 := by omega
 have hk : k = 0 ∨ k = 1 ∨ k = 2 ∨ k = 3 ∨ k = 4 ∨ k = 5 ∨ k = 6 ∨ k = 7 ∨ k = 8 ∨ k = 9 ∨ (k ≠ 0 ∧ k ≠ 1 ∧ k ≠ 2 ∧ k ≠ 3 ∧ k ≠ 4 ∧ k ≠ 5 ∧ k ≠ 6 ∧ k ≠ 7 ∧ k ≠ 8 ∧ k ≠ 9) := by omega
 rcases hc with rfl | rfl | rfl | rfl | rfl | rfl | rfl | rfl | rfl | rfl | rfl <;>
 rcases hk with rfl | rfl | rfl | rfl | rfl | rfl | rfl | rfl | rfl | rfl | ⟨a0, a1, a2, a3, a4, a5, a6, a7, a8, a9⟩ <;>
 first
 | decide
 | simp [movesOf, movesL, assoc, stK, may, a0, a1, a2, a3, a4, a5, a6, a7, a8, a9, Ne.symm a0, Ne.symm a1, Ne.symm a2, Ne.symm a3, Ne.symm a4, Ne.symm a5, Ne.symm a6, Ne.symm a7, Ne.symm a8, Ne.symm a9]
theorem assoc_set (n y m : Int) : ∀ (l : List (Int × Int)), assoc (assocSet l n y) m = if m = n then some y else assoc l m
 | [] => by simp only [assocSet, assoc]; split <;> split <;> simp_all
 | (k, x) :: l => by
  simp only [assocSet]
  split
  ·rename_i hk; subst hk
   simp only [assoc]
   split <;> split <;> simp_all
  ·rename_i hk
   simp only [assoc, assoc_set n y m l]
   split <;> split <;> simp_all
theorem may_kind {l k : Int} (h : may l k = true) : 0 ≤ k ∧ k ≤ 9 := by
 unfold may at h
 repeat' split at h
 all_goals simp at h
 all_goals omega
theorem last_app (pre : List Ev) (e : Ev) (tx : Int) : lastK (pre ++ [e]) tx = if e.tx = tx then e.kind else lastK pre tx := by
 rw [lastK, List.foldl_append]; rfl
theorem run_first : ∀ (suf pre : List Ev) (now : List (Int × Int)), (∀ tx, stOf now tx = stK (lastK pre tx) ∧ -1 ≤ lastK pre tx ∧ lastK pre tx ≤ 9) → (∀ i, i < pre.length → badAt (pre ++ suf) i = false) →
  firstI (pre ++ suf) = pre.length + (runF suf now).1
 | [], pre, now, hinv, hb => by
  rw [first_none (k := pre.length) (by simp) hb]; simp [runF]
 | e :: suf, pre, now, hinv, hb => by
  obtain ⟨h0, h1, h2⟩ := hinv e.tx
  have hn : nextS now e = if may (lastK pre e.tx) e.kind = true then some (stK e.kind) else none := by
   unfold nextS; rw [h0]; exact moves_may _ _ h1 h2
  have hbad : badAt (pre ++ e :: suf) pre.length = !may (lastK pre e.tx) e.kind := by simp [badAt]
  cases hm : may (lastK pre e.tx) e.kind with
  | false =>
   rw [hm] at hn hbad
   rw [first_hit (k := pre.length) (by simp) hb hbad]
   simp [runF, hn]
  | true =>
   rw [hm] at hn hbad
   simp only [if_true] at hn
   have hk := may_kind hm
   have ih := run_first suf (pre ++ [e]) (stepN now e) (fun tx => ?_) (fun i hi => ?_)
   ·simp only [List.append_assoc, List.singleton_append, List.length_append, List.length_cons, List.length_nil] at ih
    rw [ih]; simp [runF, hn]; omega
   ·rw [last_app]
    unfold stepN
    rw [hn]
    simp only [Option.getD_some, stOf, assoc_set]
    by_cases ht : e.tx = tx
    ·subst ht; simp; omega
    ·rw [if_neg ht, if_neg (Ne.symm ht)]; exact hinv tx
   ·simp only [List.append_assoc, List.singleton_append]
    simp only [List.length_append, List.length_cons, List.length_nil] at hi
    by_cases hip : i < pre.length
    ·exact hb i hip
    ·obtain rfl : i = pre.length := by omega
     exact hbad
theorem run_eq (h : List Ev) : firstI h = (runF h []).1 := by
 have := run_first h [] [] (fun tx => by simp [stOf, assoc, lastK, stK]) (fun i hi => by simp at hi)
 simpa using this
theorem why_next (h : List Ev) : nextE h = whyI h := by
 simp only [nextE, checkE, whyI, rightH_eq, run_eq]
end Go.VC
end
section
set_option maxRecDepth 100000
namespace Go.VC
open Go.RowKit Go.Proofs Go.IntWalk
section
variable {H : Type} {enc : TypeId × Value → H} {w : World} {base : Nat} {sp : Nat → Bool} {held : Bool}
theorem int_cell {P : Program} {t : TypeId} {k : IntKind} (ht : P.underlying t = some (.int k)) {fuel : Nat} {a : Value} {y : DataW H × List MemPlace} (h : DataW.trod enc P w base sp held fuel t [a] = some y) : ∃ n, a = .int k n := by
 cases fuel with
 | zero => simp [DataW.trod] at h
 | succ fuel =>
  unfold DataW.trod at h
  rw [ht] at h
  cases a <;> simp at h
  rename_i k' n
  exact ⟨n, by rw [h.1.1]⟩
theorem ev_cells {fuel : Nat} {cs : List Value} {y : DataW H × List MemPlace} (h : DataW.trod enc Tryz.prog w base sp held fuel 61 cs = some y) : ∃ e : Ev, cs = [.int .i64 e.kind, .int .i64 e.tx, .int .i64 e.var, .int .i64 e.val] := by
 obtain ⟨xs, n, _, rfl, hl, hlen, hf⟩ := DataW.trod_struct Tryz.underlying61 h
 have h4 : cs.length = 4 := by rw [hl]; kernel_rfl
 have c3 : Tryz.prog.cellsOf 3 = 1 := by kernel_rfl
 match cs, h4, xs, hlen with
 | [a, b, c, d], _, [x0, x1, x2, x3], _ =>
  have g := fun i f hi => hf i f hi
  obtain ⟨n0, e0⟩ := int_cell Tryz.underlying3 (by simpa [c3] using g 0 _ rfl)
  obtain ⟨n1, e1⟩ := int_cell Tryz.underlying3 (by simpa [c3] using g 1 _ rfl)
  obtain ⟨n2, e2⟩ := int_cell Tryz.underlying3 (by simpa [c3] using g 2 _ rfl)
  obtain ⟨n3, e3⟩ := int_cell Tryz.underlying3 (by simpa [c3] using g 3 _ rfl)
  exact ⟨⟨n0, n1, n2, n3⟩, by rw [e0, e1, e2, e3]⟩
theorem rd_events {fuel : Nat} {v : Value} {y : DataW H × List MemPlace} (h : DataW.trod enc Tryz.prog w base (fun _ => true) held fuel 22 [v] = some y) : ∃ l : List Ev, Rd (fun _ => True) w v (.sl (l.map Ev.enc)) := by
 rcases Go.Deep.open_slice Tryz.underlying22 h with ⟨hcs, _⟩ | ⟨a, len, cap, m, n, D0, Pl, hcs, hb, hlc, hcm, hm, _, hel⟩
 ·cases hcs; exact ⟨[], .nil⟩
 ·cases hcs
  simp only [if_true] at hm
  subst hm
  have c69 : Tryz.prog.cellsOf 61 = 4 := by kernel_rfl
  rw [c69] at hel
  have hev : ∀ i, i < m → ∃ e : Ev, w.cells? base (a.add (i * 4)) 4 = some [.int .i64 e.kind, .int .i64 e.tx, .int .i64 e.var, .int .i64 e.val] := fun i hi => by
   obtain ⟨cs', h1, h2⟩ := hel i hi
   obtain ⟨e, rfl⟩ := ev_cells h2
   exact ⟨e, h1⟩
  have hevs : ∃ f : Nat → Ev, ∀ i, i < m → w.cells? base (a.add (i * 4)) 4 = some [.int .i64 (f i).kind, .int .i64 (f i).tx, .int .i64 (f i).var, .int .i64 (f i).val] :=
   ⟨fun i => if hi : i < m then (hev i hi).choose else ⟨0, 0, 0, 0⟩, fun i hi => by simp only [hi, dite_true]; exact (hev i hi).choose_spec⟩
  obtain ⟨f, hf⟩ := hevs
  have hcell : ∀ i, i < m → ∀ j, j < 4 → w.cell? ((a.add (i * 4)).add j) = [Value.int .i64 (f i).kind, .int .i64 (f i).tx, .int .i64 (f i).var, .int .i64 (f i).val][j]? := fun i hi j hj => by
   obtain ⟨_, _, h3⟩ := World.cells?_some (hf i hi)
   exact h3 j hj
  by_cases hm0 : m = 0
  ·subst hm0
   obtain rfl : len = 0 := by omega
   exact ⟨[], .nil⟩
  ·have h00 := hcell 0 (by omega) 0 (by omega)
   obtain ⟨b, off, spot⟩ := a
   simp only [Nat.zero_mul, Addr.add, if_true, World.cell?] at h00
   split at h00
   ·rename_i arr e fr hblk
    cases spot with
    | some s => simp at h00
    | none =>
     have harr : ∀ i, i < m → ∀ j, j < 4 → arr[off + i * 4 + j]? = [Value.int .i64 (f i).kind, .int .i64 (f i).tx, .int .i64 (f i).var, .int .i64 (f i).val][j]? := fun i hi j hj => by
      have := hcell i hi j hj
      rw [add_at, add_at] at this
      simpa [World.cell?, hblk] using this
     refine ⟨(List.range len).map f, .sl (b := b) (off := off) (arr := arr) (e := e) (fr := fr) (sz := 4) (vs := fun i j => [Value.int .i64 (f i).kind, .int .i64 (f i).tx, .int .i64 (f i).var, .int .i64 (f i).val].getD j undef) trivial hblk (by simp) hlc hcm evs_len (fun i hi j hj => ?_) (fun i x j d hx hd => ?_)⟩
     ·simp only [List.length_map, List.length_range] at hi
      rw [harr i (by omega) j hj]
      match j, hj with
      | 0, _ => rfl
      | 1, _ => rfl
      | 2, _ => rfl
      | 3, _ => rfl
     ·simp only [List.getElem?_map, Option.map_eq_some_iff] at hx
      obtain ⟨e', ⟨i', hi', rfl⟩, rfl⟩ := hx
      have : i' = i := by
       obtain ⟨h1, h2⟩ := List.getElem?_eq_some_iff.1 hi'
       simpa using h2.symm
      subst this
      match j with
      | 0 => cases hd; exact .v rfl
      | 1 => cases hd; exact .v rfl
      | 2 => cases hd; exact .v rfl
      | 3 => cases hd; exact .v rfl
      | j + 4 => simp [Ev.enc] at hd
   ·cases h00
theorem rd_ints30 {fuel : Nat} {v : Value} {y : DataW H × List MemPlace} (h : DataW.trod enc Tryz.prog w base (fun _ => true) held fuel 35 [v] = some y) : ∃ l : List Int, Rd (fun _ => True) w v (.sl (l.map ienc)) := by
 rcases Go.Deep.open_slice Tryz.underlying35 h with ⟨hcs, _⟩ | ⟨a, len, cap, m, n, D0, Pl, hcs, hb, hlc, hcm, hm, _, hel⟩
 ·cases hcs; exact ⟨[], .nil⟩
 ·cases hcs
  simp only [if_true] at hm
  subst hm
  have c3 : Tryz.prog.cellsOf 3 = 1 := by kernel_rfl
  rw [c3] at hel
  have hev : ∀ i, i < m → ∃ e : Int, w.cells? base (a.add (i * 1)) 1 = some [.int .i64 e] := fun i hi => by
   obtain ⟨cs', h1, h2⟩ := hel i hi
   obtain ⟨hl, _⟩ := World.cells?_some h1
   match cs', hl with
   | [c], _ =>
    obtain ⟨e, rfl⟩ := int_cell Tryz.underlying3 h2
    exact ⟨e, h1⟩
  have hevs : ∃ f : Nat → Int, ∀ i, i < m → w.cells? base (a.add (i * 1)) 1 = some [.int .i64 (f i)] :=
   ⟨fun i => if hi : i < m then (hev i hi).choose else 0, fun i hi => by simp only [hi, dite_true]; exact (hev i hi).choose_spec⟩
  obtain ⟨f, hf⟩ := hevs
  have hcell : ∀ i, i < m → ∀ j, j < 1 → w.cell? ((a.add (i * 1)).add j) = [Value.int .i64 (f i)][j]? := fun i hi j hj => by
   obtain ⟨_, _, h3⟩ := World.cells?_some (hf i hi)
   exact h3 j hj
  by_cases hm0 : m = 0
  ·subst hm0
   obtain rfl : len = 0 := by omega
   exact ⟨[], .nil⟩
  ·have h00 := hcell 0 (by omega) 0 (by omega)
   obtain ⟨b, off, spot⟩ := a
   simp only [Nat.zero_mul, Addr.add, if_true, World.cell?] at h00
   split at h00
   ·rename_i arr e fr hblk
    cases spot with
    | some s => simp at h00
    | none =>
     have harr : ∀ i, i < m → ∀ j, j < 1 → arr[off + i * 1 + j]? = [Value.int .i64 (f i)][j]? := fun i hi j hj => by
      have := hcell i hi j hj
      rw [add_at, add_at] at this
      simpa [World.cell?, hblk] using this
     refine ⟨(List.range len).map f, .sl (b := b) (off := off) (arr := arr) (e := e) (fr := fr) (sz := 1) (vs := fun i j => [Value.int .i64 (f i)].getD j undef) trivial hblk (by simp) hlc hcm ints_len (fun i hi j hj => ?_) (fun i x j d hx hd => ?_)⟩
     ·simp only [List.length_map, List.length_range] at hi
      rw [harr i (by omega) j hj]
      match j, hj with
      | 0, _ => rfl
     ·simp only [List.getElem?_map, Option.map_eq_some_iff] at hx
      obtain ⟨e', ⟨i', hi', rfl⟩, rfl⟩ := hx
      have : i' = i := by
       obtain ⟨h1, h2⟩ := List.getElem?_eq_some_iff.1 hi'
       simpa using h2.symm
      subst this
      match j with
      | 0 => cases hd; exact .v rfl
      | j + 1 => simp [ienc] at hd
   ·cases h00
end
end Go.VC
end
section
set_option maxRecDepth 100000
namespace Go.VC
open Go.RowKit Go.Proofs Go.IntWalk Go.ChangeShapes Go.WideShapes
def kindsL : List (String × DataW Unit) := [("recant/text.kinds", Go.Proofs.YtapjdpmbgmjjeaaGreatDoor.Rows.laid_recant_text_kinds)]
def kindCells : Array Value := ((kindW.zip kindB).flatMap fun p => [Value.string ⟨p.1.toArray⟩, .bool p.2.1, .bool p.2.2]).toArray
noncomputable def laidWorld (os : Os) : World :=
 let w0 := World.holding Tryz.prog os ⟨#[], #[], []⟩
 { w0 with heap := w0.heap.modify 0 fun
   | .cells _ t frozen => .cells kindCells t frozen
   | o => o }
theorem laidWorld_met (os : Os) (args : Array Value) : laidMetH Tryz.prog kindsL ((laidWorld os).forCall (fun _ _ => 0) ⟨#[], args, []⟩).memory :=
 laidMetH_of_parts (laidMet_of_run' 8 (by kernel_rfl) (by kernel_rfl)) (by kernel_rfl)
section
variable {H : Type} {enc : TypeId × Value → H} {w : World} {base : Nat} {sp : Nat → Bool} {held : Bool}
theorem str_cell {P : Program} {t : TypeId} (ht : P.underlying t = some .string) {fuel : Nat} {a : Value} {s : List UInt8} {p : List MemPlace} (h : DataW.trod enc P w base sp held fuel t [a] = some (.lit (.string s), p)) : a = .string ⟨s.toArray⟩ := by
 cases fuel with
 | zero => simp [DataW.trod] at h
 | succ fuel =>
  unfold DataW.trod at h
  rw [ht] at h
  cases a <;> simp at h
  rename_i b
  obtain ⟨_, h, _⟩ := h
  rw [← h]
theorem bool_cell {P : Program} {t : TypeId} (ht : P.underlying t = some .bool) {fuel : Nat} {a : Value} {s : Bool} {p : List MemPlace} (h : DataW.trod enc P w base sp held fuel t [a] = some (.lit (.bool s), p)) : a = .bool s := by
 cases fuel with
 | zero => simp [DataW.trod] at h
 | succ fuel =>
  unfold DataW.trod at h
  rw [ht] at h
  cases a <;> simp at h
  rw [h.1]
theorem kind_cells {fuel : Nat} {cs : List Value} {s : List UInt8} {x y : Bool} {p : List MemPlace} (h : DataW.trod enc Tryz.prog w base sp held fuel 204 cs = some (.agg [.lit (.string s), .lit (.bool x), .lit (.bool y)], p)) : cs = [.string ⟨s.toArray⟩, .bool x, .bool y] := by
 obtain ⟨xs, n, _, e, hl, hlen, hf⟩ := DataW.trod_struct Tryz.underlying204 h
 have h3 : cs.length = 3 := by rw [hl]; kernel_rfl
 have c9 : Tryz.prog.cellsOf 9 = 1 := by kernel_rfl
 have c4 : Tryz.prog.cellsOf 4 = 1 := by kernel_rfl
 match cs, h3, xs, hlen with
 | [a, b, c], _, [x0, x1, x2], _ =>
  simp only [List.map_cons, List.map_nil, Prod.mk.injEq, DataW.agg.injEq, List.cons.injEq, and_true] at e
  obtain ⟨⟨e0, e1, e2⟩, _⟩ := e
  have g := fun i f hi => hf i f hi
  have g0 : DataW.trod enc Tryz.prog w base sp held n 9 [a] = some x0 := by simpa [c9] using g 0 _ rfl
  have g1 : DataW.trod enc Tryz.prog w base sp held n 4 [b] = some x1 := by simpa [c4] using g 1 _ rfl
  have g2 : DataW.trod enc Tryz.prog w base sp held n 4 [c] = some x2 := by simpa [c4] using g 2 _ rfl
  have k0 : a = .string ⟨s.toArray⟩ := str_cell (p := x0.2) Tryz.underlying9 (by rw [g0, e0])
  have k1 : b = .bool x := bool_cell (p := x1.2) Tryz.underlying4 (by rw [g1, e1])
  have k2 : c = .bool y := bool_cell (p := x2.2) Tryz.underlying4 (by rw [g2, e2])
  rw [k0, k1, k2]
end
end Go.VC
namespace Go.VC
open Go.RowKit Go.Proofs Go.IntWalk Go.ChangeShapes Go.WideShapes
theorem kinds_cells {w : World} (h : laidMetH Tryz.prog kindsL w) : ∃ t fr, w.heap[0]? = some (.cells kindCells t fr) := by
 have h' : laidMet Tryz.prog kindsL w := h
 obtain ⟨ps, ⟨g, t, cs, fuel, p, q, e1, e2, e3, e4, _⟩, _⟩ := h'
 have hg : Tryz.prog.globalNamed "recant/text.kinds" = some 0 := by kernel_rfl
 obtain rfl : g = 0 := (Option.some.inj (hg.symm.trans e1)).symm
 have ht : (Tryz.prog.globals[0]?).map (·.type) = some 205 := by kernel_rfl
 obtain rfl : t = 205 := (Option.some.inj (ht.symm.trans e2)).symm
 have hcs : cs = kindCells := by
  obtain ⟨xs, m, _, e, hl, hlen, hf⟩ := DataW.trod_array Tryz.underlying205 e4
  have h30 : cs.toList.length = 30 := by rw [hl]; kernel_rfl
  have c157 : Tryz.prog.cellsOf 204 = 3 := by kernel_rfl
  rw [c157] at hf
  have hrow : ∀ i, i < 10 → (cs.toList.drop (i * 3)).take 3 = (kindCells.toList.drop (i * 3)).take 3 := by
   match xs, hlen with
   | [x0, x1, x2, x3, x4, x5, x6, x7, x8, x9], _ =>
    unfold Go.Proofs.YtapjdpmbgmjjeaaGreatDoor.Rows.laid_recant_text_kinds at e
    simp only [List.map_cons, List.map_nil, Prod.mk.injEq, DataW.agg.injEq, List.cons.injEq, and_true] at e
    obtain ⟨⟨e0, e1, e2, e3, e4, e5, e6, e7, e8, e9⟩, _⟩ := e
    intro i hi
    have hc : i = 0 ∨ i = 1 ∨ i = 2 ∨ i = 3 ∨ i = 4 ∨ i = 5 ∨ i = 6 ∨ i = 7 ∨ i = 8 ∨ i = 9 := by omega
    rcases hc with rfl | rfl | rfl | rfl | rfl | rfl | rfl | rfl | rfl | rfl
    ·exact kind_cells (p := x0.2) ((hf 0 (by omega)).trans (by rw [e0]; rfl))
    ·exact kind_cells (p := x1.2) ((hf 1 (by omega)).trans (by rw [e1]; rfl))
    ·exact kind_cells (p := x2.2) ((hf 2 (by omega)).trans (by rw [e2]; rfl))
    ·exact kind_cells (p := x3.2) ((hf 3 (by omega)).trans (by rw [e3]; rfl))
    ·exact kind_cells (p := x4.2) ((hf 4 (by omega)).trans (by rw [e4]; rfl))
    ·exact kind_cells (p := x5.2) ((hf 5 (by omega)).trans (by rw [e5]; rfl))
    ·exact kind_cells (p := x6.2) ((hf 6 (by omega)).trans (by rw [e6]; rfl))
    ·exact kind_cells (p := x7.2) ((hf 7 (by omega)).trans (by rw [e7]; rfl))
    ·exact kind_cells (p := x8.2) ((hf 8 (by omega)).trans (by rw [e8]; rfl))
    ·exact kind_cells (p := x9.2) ((hf 9 (by omega)).trans (by rw [e9]; rfl))
  have : cs.toList = kindCells.toList := by
   apply List.ext_getElem?
   intro j
   by_cases hj : j < 30
   ·have h1 := congrArg (·[j % 3]?) (hrow (j / 3) (by omega))
    simp only [List.getElem?_take, List.getElem?_drop, show j % 3 < 3 by omega, if_true, show j / 3 * 3 + j % 3 = j by omega] at h1
    exact h1
   ·rw [List.getElem?_eq_none (by omega), List.getElem?_eq_none (by have : kindCells.toList.length = 30 := rfl; omega)]
  exact Array.toList_inj.1 this
 subst hcs
 simp only [World.var?, hg, Option.bind_some] at e3
 split at e3
 ·rename_i cs' t' fr hh
  cases e3
  exact ⟨_, _, hh⟩
 ·cases e3
theorem env_of_laid {w : World} (h : laidMetH Tryz.prog kindsL w) : EnvOk GL (fun _ => True) w := fun g cs hg => by
 unfold GL at hg
 split at hg
 ·rename_i h0
  subst h0
  cases hg
  obtain ⟨t, fr, hh⟩ := kinds_cells h
  have hlen : (kindD kindW).length = 30 := rfl
  refine .pt (vs := fun j => kindCells.toList.getD j undef) trivial hh (fun j hj => ?_) (fun j d hd => ?_)
  ·rw [hlen] at hj
   have h30 : kindCells.toList.length = 30 := rfl
   rw [Nat.zero_add, ← Array.getElem?_toList, List.getD_eq_getElem?_getD, List.getElem?_eq_getElem (by omega)]; rfl
  ·have hj := (List.getElem?_eq_some_iff.1 hd).1
   rw [hlen] at hj
   have hc : j = 0 ∨ j = 1 ∨ j = 2 ∨ j = 3 ∨ j = 4 ∨ j = 5 ∨ j = 6 ∨ j = 7 ∨ j = 8 ∨ j = 9 ∨ j = 10 ∨ j = 11 ∨ j = 12 ∨ j = 13 ∨ j = 14 ∨ j = 15 ∨ j = 16 ∨ j = 17 ∨ j = 18 ∨ j = 19 ∨ j = 20 ∨ j = 21 ∨ j = 22 ∨ j = 23 ∨ j = 24 ∨ j = 25 ∨ j = 26 ∨ j = 27 ∨ j = 28 ∨ j = 29 := by omega
   rcases hc with rfl | rfl | rfl | rfl | rfl | rfl | rfl | rfl | rfl | rfl | rfl | rfl | rfl | rfl | rfl | rfl | rfl | rfl | rfl | rfl | rfl | rfl | rfl | rfl | rfl | rfl | rfl | rfl | rfl | rfl <;> (cases hd; exact .v rfl)
 ·cases hg
end Go.VC
end
section
set_option maxRecDepth 100000
namespace Go.VC
open Go.RowKit Go.Proofs Go.IntWalk Go.ChangeShapes Go.WideShapes Go.ChangeAt
theorem own : ownKnob Tryz.prog.godebug = none := by kernel_rfl
theorem laidOut : laidOutB Tryz.prog = true := by kernel_rfl
theorem walk_true {f : FuncId} {xs : List A} {W : World} {vs : List Value} (h : Holds Tryz.prog GL f xs [.a (B true)]) (hl : laidMetH Tryz.prog kindsL W) (hv : F2 (RelA (fun _ => True) W) vs xs) :
  Calls Tryz.prog f vs.toArray W fun e W' => e = .returned (.bool true) ∧ Below W.heap.size W W' :=
 (h.2 _ W vs (env_of_laid hl) hv).mono fun e W' ⟨us, he, hk, hr, _⟩ => by
  obtain ⟨u, s, rfl, hu, hs⟩ := hr.of_cons
  obtain rfl := hs.of_nil
  have hu' : u = .bool true := by cases hu; rfl
  subst hu'
  exact ⟨he, hk.below⟩
end Go.VC
end
section
set_option maxRecDepth 100000
namespace Go.VC
open Go.RowKit Go.Proofs
section
variable {P : Program} {gl : Nat → Option (List D)} {σ : S} {K : S → Prop} {dst : Option Tmp} {ty : TypeId} {pos : String} {after : Array Edge} {g : Option (Nat × Bool)}
def slR : R → Option (List (List D))
 | .a (.d (.sl xs)) => some xs
 | .cs xs => some xs
 | _ => none
theorem slR_rel {β : Nat → Value} {st : Nat → Prop} {w : World} {v : Value} {r : R} {xs : List (List D)} (h : RelR β st w v r) (hx : slR r = some xs) : ∃ p c, v = .slice p xs.length c ∧ (xs ≠ [] → p.isNone = false) := by
 have key : Rd st w v (.sl xs) → ∃ p c, v = .slice p xs.length c ∧ (xs ≠ [] → p.isNone = false) := fun k => by
  rcases k.inv_sl with ⟨⟨p, rfl⟩, rfl⟩ | ⟨b, off, n, cap, sz, arr, e', fr, rfl, hn, _⟩
  ·exact ⟨p, 0, rfl, fun h => absurd rfl h⟩
  ·exact ⟨_, cap, by rw [hn], fun _ => rfl⟩
 unfold slR at hx
 split at hx
 ·cases hx; exact key h.inv_d
 ·cases hx; obtain ⟨p, n, rfl, hr⟩ := h.inv_cs; exact key hr
 ·cases hx
theorem run_bin_nil {w : World} {op : BinOp} {neg : Bool} (hop : (op = .eql ∧ neg = false) ∨ (op = .neq ∧ neg = true)) {t e : TypeId} (ht : P.underlying t = some (.slice e)) {x : Operand} {p : Option Addr} {n c : Nat} :
  (do eqGuard op t x (.const (.slice none 0 0)) (.slice p n c) (.slice none 0 0); binOp op t (.slice p n c) (.slice none 0 0) : Sem Value).run P w = .ok (.bool (p.isNone != neg)) w := by
 rcases hop with ⟨rfl, rfl⟩ | ⟨rfl, rfl⟩
 ·have := Go.Lib.run_eql_slice_nil (P := P) w t e p n c 0 0 ht
  simp only [binOp] at this
  simp only [Sem.run_bind, eqGuard, Result.andThen_ok, binOp]
  simpa using this
 ·have := Go.Lib.run_equalIn_slice_nil (P := P) w 9999 t e p n c 0 0 ht
  simp [eqGuard, binOp, Op.equal, Op.maxDepth, this]
theorem sem_nil {op : BinOp} {neg : Bool} (hop : (op = .eql ∧ neg = false) ∨ (op = .neq ∧ neg = true)) {t e u : TypeId} (ht : tk P t = .slice e) {x : Operand} {xs : List (List D)} (hx : slR (σ.eval gl x) = some xs)
  (h1 : xs ≠ [] → K (σ.put dst (.a (B neg)))) (h2 : xs = [] → ∀ b, K (σ.put dst (.a (B b)))) : SemOp P gl ⟨dst, .binOp op t x (.const (.slice none 0 0)) u, ty, pos, after, g⟩ σ K := by
 intro c β a w hP hgl hs hd
 subst hP; subst hgl
 obtain ⟨p, cp, hv, hp⟩ := slR_rel (hs.eval x) hx
 have hr := run_bin_nil (P := c.P) (w := w) hop (tk_slice ht) (x := x) (p := p) (n := xs.length) (c := cp)
 refine Run.val (v := .bool (p.isNone != neg)) (w' := w) (fun _ e => by cases e) ?_ ⟨_, β, ?_, hs.put hd (.a (x := B (p.isNone != neg)) (.v rfl))⟩
 ·simp only [execOp, hv, Sem.run_bind] at hr ⊢
  rw [show a.eval (.const (.slice none 0 0)) = .slice none 0 0 from rfl, hr]; rfl
 ·by_cases hxs : xs = []
  ·exact h2 hxs _
  ·have := h1 hxs
   rw [hp hxs]
   cases neg <;> exact this
end
end Go.VC
end
section
set_option maxRecDepth 100000
namespace Go.VC
open Go.RowKit Go.Proofs
theorem upEx : ∃ f : Nat → Nat, ∀ o, f o = o + 1000000 := ⟨fun o => o + 1000000, fun _ => rfl⟩
noncomputable def upId (o : Nat) : Nat := Classical.choose upEx o
theorem upId_eq (o : Nat) : upId o = o + 1000000 := Classical.choose_spec upEx o
theorem upId_sub (o : Nat) : upId o - 1000000 = o := by rw [upId_eq, Nat.add_sub_cancel]
theorem upId_le (o : Nat) : 1000000 ≤ upId o := by rw [upId_eq]; omega
theorem upId_of {o : Nat} (h : 1000000 ≤ o) : upId (o - 1000000) = o := by rw [upId_eq]; omega
theorem upId_inj {o o' : Nat} (h : upId o = upId o') : o = o' := by rw [upId_eq, upId_eq] at h; omega
noncomputable def R.up : R → R
 | .ref o f => .ref (upId o) f
 | .eref o i s j => .eref (upId o) i s j
 | .own o => .own (upId o)
 | .omp o => .omp (upId o)
 | .clo f caps => .clo f (caps.map fun c => (upId c.1, c.2))
 | .tp (_ :: _) => .any
 | .agr _ => .any
 | .sem os p => .sem (os.map upId) fun β v => p (fun o => β (upId o)) v
 | r => r
def R.down : R → R
 | .ref o f => if 1000000 ≤ o then .ref (o - 1000000) f else .any
 | .eref o i s j => if 1000000 ≤ o then .eref (o - 1000000) i s j else .any
 | .own o => if 1000000 ≤ o then .own (o - 1000000) else .any
 | .omp o => if 1000000 ≤ o then .omp (o - 1000000) else .any
 | .clo f caps => if caps.all (fun c => decide (1000000 ≤ c.1)) then .clo f (caps.map fun c => (c.1 - 1000000, c.2)) else .any
 | .tp (_ :: _) => .any
 | .agr _ => .any
 | .sem os p => if os.all (fun o => decide (1000000 ≤ o)) then .sem (os.map (· - 1000000)) fun β v => p (fun o => β (o - 1000000)) v else .any
 | r => r
noncomputable def SemOb.up (x : SemOb) : SemOb where
 os := x.os.map upId
 p := fun β st w bv => x.p (fun o => β (upId o)) st w bv
 lt := fun h => x.lt h
 mono := fun H h k => x.mono H h k
 dep := fun h => x.dep fun o ho => h _ (List.mem_map.2 ⟨o, ho, rfl⟩)
def SemOb.down (x : SemOb) (h : ∀ o ∈ x.os, 1000000 ≤ o) : SemOb where
 os := x.os.map (· - 1000000)
 p := fun β st w bv => x.p (fun o => β (o - 1000000)) st w bv
 lt := fun h => x.lt h
 mono := fun H h k => x.mono H h k
 dep := fun h => x.dep fun o ho => h _ (List.mem_map.2 ⟨o, ho, rfl⟩)
noncomputable def Ob.up : Ob → Ob
 | .box cs => .box (cs.map R.up)
 | .frame vs rs => .frame vs fun t => (rs t).up
 | .sem x => .sem x.up
 | x => x
open Classical in
noncomputable def Ob.down : Ob → Ob
 | .box cs => .box (cs.map R.down)
 | .frame vs rs => .frame vs fun t => (rs t).down
 | .sem x => if h : ∀ o ∈ x.os, 1000000 ≤ o then .sem (x.down h) else .lost
 | x => x
noncomputable def argR (rs : List R) (t : Nat) : R := match rs[t]? with
 | some r => r.up
 | none => .any
noncomputable def S.enter (vs : List Value) (rs : List R) (σ : S) : S where
 regs := argR rs
 mem := fun o => if o < 1000000 then (if o = 999999 then some (.frame vs fun t => (σ.regs t).up) else none) else if 1000000000 ≤ o ∧ o < 1001000000 then none else (σ.mem (o - 1000000)).map Ob.up
def frR : Option Ob → Nat → R
 | some (.frame _ rs), t => (rs t).down
 | _, _ => .any
noncomputable def S.leave (σ : S) : S where
 regs := frR (σ.mem 999999)
 mem := fun o => if 999000000 ≤ o ∧ o < 1000000000 then none else (σ.mem (upId o)).map Ob.down
section
variable {β : Nat → Value} {st : Nat → Prop} {w : World} {v : Value}
theorem RelR.up {β' : Nat → Value} (hβ : ∀ o, β' (upId o) = β o) {r : R} (h : RelR β st w v r) : RelR β' st w v r.up := by
 cases h with
 | any => exact .any
 | a h => exact .a h
 | cs h => exact .cs h
 | ref h => exact .ref ((hβ _).trans h)
 | eref h => exact .eref ((hβ _).trans h)
 | own h h1 => exact .own ((hβ _).trans h) h1
 | omp h h1 => exact .omp ((hβ _).trans h) h1
 | clo h =>
  refine .clo ⟨by simp [h.1], fun i v c hv hc => ?_⟩
  simp only [List.getElem?_map, Option.map_eq_some_iff] at hc
  obtain ⟨c', hc', rfl⟩ := hc
  obtain ⟨b, hb, e⟩ := h.2 i v c' hv hc'
  exact ⟨b, (hβ _).trans hb, e⟩
 | @tp vs xs hl hd =>
  cases xs with
  | nil => exact .tp hl fun j v r _ hr => by simp at hr
  | cons x xs => exact .any
 | agr _ _ _ => exact .any
 | sem h hp =>
  have e : (fun o => β' (upId o)) = β := funext hβ
  refine .sem (by rw [e]; exact h) fun β2 h2 => ?_
  refine hp _ fun o ho => ?_
  rw [h2 _ (List.mem_map.2 ⟨o, ho, rfl⟩), hβ]
theorem RelR.down {β' : Nat → Value} (hβ : ∀ o, 1000000 ≤ o → β' (o - 1000000) = β o) {r : R} (h : RelR β st w v r) : RelR β' st w v r.down := by
 cases h with
 | any => exact .any
 | a h => exact .a h
 | cs h => exact .cs h
 | ref h => simp only [R.down]; split <;> first | exact .any | exact .ref ((hβ _ ‹_›).trans h)
 | eref h => simp only [R.down]; split <;> first | exact .any | exact .eref ((hβ _ ‹_›).trans h)
 | own h h1 => simp only [R.down]; split <;> first | exact .any | exact .own ((hβ _ ‹_›).trans h) h1
 | omp h h1 => simp only [R.down]; split <;> first | exact .any | exact .omp ((hβ _ ‹_›).trans h) h1
 | clo h =>
  simp only [R.down]
  split
  ·rename_i hall
   refine .clo ⟨by simp [h.1], fun i v c hv hc => ?_⟩
   simp only [List.getElem?_map, Option.map_eq_some_iff] at hc
   obtain ⟨c', hc', rfl⟩ := hc
   obtain ⟨b, hb, e⟩ := h.2 i v c' hv hc'
   have := List.all_eq_true.1 hall c' (List.mem_of_getElem? hc')
   exact ⟨b, (hβ _ (by simpa using this)).trans hb, e⟩
  ·exact .any
 | @tp vs xs hl hd =>
  cases xs with
  | nil => exact .tp hl fun j v r _ hr => by simp at hr
  | cons x xs => exact .any
 | agr _ _ _ => exact .any
 | @sem os p v h hp =>
  simp only [R.down]
  split
  ·rename_i hall
   have hge : ∀ o ∈ os, 1000000 ≤ o := fun o ho => by simpa using List.all_eq_true.1 hall o ho
   refine .sem (hp _ fun o ho => hβ o (hge o ho)) fun β2 h2 => hp _ fun o ho => ?_
   show β2 (o - 1000000) = β o
   rw [h2 _ (List.mem_map.2 ⟨o, ho, rfl⟩), hβ o (hge o ho)]
  ·exact .any
theorem ObRel.up {β' : Nat → Value} (hβ : ∀ o, β' (upId o) = β o) {x : Ob} (h : ObRel β st w v x) : ObRel β' st w v x.up := by
 cases x with
 | box cs =>
  obtain ⟨b, arr, e, rfl, hb, hr⟩ := h
  refine ⟨b, arr, e, rfl, hb, by simp [hr.1], fun i v r hv hr' => ?_⟩
  simp only [List.getElem?_map, Option.map_eq_some_iff] at hr'
  obtain ⟨r0, h0, rfl⟩ := hr'
  exact ⟨(hr.2 i v r0 hv h0).1, (hr.2 i v r0 hv h0).2.up hβ⟩
 | log e sz xs => exact h
 | mpo kv => exact h
 | iter kv seen => exact h
 | frame vs rs => exact ⟨h.1, fun t => (h.2 t).up hβ⟩
 | sem x =>
  have e : (fun o => β' (upId o)) = β := funext hβ
  show x.p (fun o => β' (upId o)) st w v
  rw [e]; exact h
 | lost => exact h
theorem ObRel.down {β' : Nat → Value} (hβ : ∀ o, 1000000 ≤ o → β' (o - 1000000) = β o) {x : Ob} (h : ObRel β st w v x) : ObRel β' st w v x.down := by
 cases x with
 | box cs =>
  obtain ⟨b, arr, e, rfl, hb, hr⟩ := h
  refine ⟨b, arr, e, rfl, hb, by simp [hr.1], fun i v r hv hr' => ?_⟩
  simp only [List.getElem?_map, Option.map_eq_some_iff] at hr'
  obtain ⟨r0, h0, rfl⟩ := hr'
  exact ⟨(hr.2 i v r0 hv h0).1, (hr.2 i v r0 hv h0).2.down hβ⟩
 | log e sz xs => exact h
 | mpo kv => exact h
 | iter kv seen => exact h
 | frame vs rs => exact ⟨h.1, fun t => (h.2 t).down hβ⟩
 | sem x =>
  simp only [Ob.down]
  split
  ·rename_i hall
   exact x.dep (β := β) (fun o ho => hβ o (hall o ho)) h
  ·exact fun b hb => x.lt h b hb
 | lost => exact h
end
section
variable {c : Cx} {σ : S} {β : Nat → Value} {a : Act} {w : World}
def cxIn (c : Cx) (N : Nat) (Ds : List Nat) : Cx := { c with N := N, df := [], M := Ds ++ c.M }
def βIn (β : Nat → Value) (o : Nat) : Value := if o < 1000000 then undef else β (o - 1000000)
theorem βIn_add (β : Nat → Value) (o : Nat) : βIn β (upId o) = β o := by unfold βIn; rw [if_neg (by have := upId_le o; omega), upId_sub]
theorem undef_own : ownB undef = none := rfl
theorem enter_at {vs : List Value} {rs : List R} {o : Nat} {x : Ob} (h : (S.enter vs rs σ).mem o = some x) : (o = 999999 ∧ x = .frame vs fun t => (σ.regs t).up) ∨ ∃ o' y, o = upId o' ∧ σ.mem o' = some y ∧ x = y.up := by
 simp only [S.enter] at h
 split at h
 ·split at h
  ·rename_i e; cases h; exact .inl ⟨e, rfl⟩
  ·cases h
 ·split at h
  ·cases h
  ·rename_i h1 _
   obtain ⟨y, hy, rfl⟩ := Option.map_eq_some_iff.1 h
   exact .inr ⟨o - 1000000, y, (upId_of (by omega)).symm, hy, rfl⟩
theorem enter_sim {N : Nat} {rs : List R} {vs : List Value} {Ds : List Nat} (h : Sim c σ β a w) (hM : MarksOk c σ β w (Ds ++ c.M)) (hv : F2 (RelR β (stF c σ β w) w) vs rs) (hN : rs.length ≤ N) :
  Sim (cxIn c N Ds) (S.enter a.tmps.toList rs σ) (βIn β) { tmps := vs.toArray ++ Array.replicate (N - vs.toArray.size) undef, defers := [] } w := by
 have hst : ∀ b, stF c σ β w b → stF (cxIn c N Ds) (S.enter a.tmps.toList rs σ) (βIn β) w b ∧ w.heap[b]? = w.heap[b]? := fun b hb => ⟨⟨hb.1, hb.2.1, fun o x hx => by
  rcases enter_at hx with ⟨rfl, _⟩ | ⟨o', y, rfl, hy, _⟩
  ·simp [βIn, undef_own]
  ·rw [βIn_add]; exact hb.2.2.1 o' y hy, hb.2.2.2⟩, rfl⟩
 have hl := hv.1
 have hdf : ∃ Ds' : List Nat, ([] : List Deferred) = Ds'.map markD ++ (cxIn c N Ds).df ∧ MarksOk (cxIn c N Ds) (S.enter a.tmps.toList rs σ) (βIn β) w (Ds' ++ (cxIn c N Ds).M) := by
  have := hM.keep (w' := w) (σ' := S.enter a.tmps.toList rs σ) (β' := βIn β) (fun _ _ _ => rfl) fun o x hx => by
   rcases enter_at hx with ⟨rfl, _⟩ | ⟨o', y, rfl, hy, _⟩
   ·exact .inr fun b hb => by simp [βIn, undef_own] at hb
   ·exact .inl ⟨o', y, hy, βIn_add β o'⟩
  exact ⟨[], rfl, this.nd, this.ok, this.lp⟩
 refine ⟨h.keep, ?_, hdf, c.hE hst h.ext, fun o x hx => ?_, fun o x b hx hb => ?_, fun o o' x x' b hx hx' hb hb' => ?_, fun t => ?_, h.env.mono hst⟩
 ·simp [cxIn]; omega
 ·rcases enter_at hx with ⟨rfl, rfl⟩ | ⟨o', y, rfl, hy, rfl⟩
  ·refine ⟨by simp [βIn, undef_own], fun t => ?_⟩
   have := ((h.reg t).mono hst).up (βIn_add β)
   rwa [show a.tmps.toList.getD t undef = a.tmps.getD t undef by rw [List.getD_eq_getElem?_getD, Array.getD_eq_getD_getElem?, Array.getElem?_toList]]
  ·rw [βIn_add]
   exact ((h.obj o' y hy).mono hst fun _ _ => rfl).up (βIn_add β)
 ·rcases enter_at hx with ⟨rfl, rfl⟩ | ⟨o', y, rfl, hy, rfl⟩
  ·simp [βIn, undef_own] at hb
  ·rw [βIn_add] at hb
   exact (h.blk o' y b hy hb).imp id fun hx => ⟨hx.1, by rw [upId_eq]; omega⟩
 ·rcases enter_at hx with ⟨rfl, rfl⟩ | ⟨o1, y, rfl, hy, rfl⟩
  ·simp [βIn, undef_own] at hb
  ·rcases enter_at hx' with ⟨rfl, rfl⟩ | ⟨o2, y', rfl, hy', rfl⟩
   ·simp [βIn, undef_own] at hb'
   ·rw [βIn_add] at hb hb'
    rw [h.dis o1 o2 y y' b hy hy' hb hb']
 ·simp only [S.enter, argR]
  split
  ·rename_i r hr
   obtain ⟨v, hv', hrel⟩ := hv.get hr
   have ht := (List.getElem?_eq_some_iff.1 hv').1
   have : (vs.toArray ++ Array.replicate (N - vs.toArray.size) undef).getD t undef = v := by
    rw [Array.getD_eq_getD_getElem?, Array.getElem?_append_left (by simpa using ht)]
    simp [hv']
   rw [this]
   exact (hrel.mono hst).up (βIn_add β)
  ·exact .any
theorem leave_at {o : Nat} {x : Ob} (h : (S.leave σ).mem o = some x) : ¬ (999000000 ≤ o ∧ o < 1000000000) ∧ ∃ y, σ.mem (upId o) = some y ∧ x = y.down := by
 simp only [S.leave] at h
 split at h
 ·cases h
 ·rename_i h1
  obtain ⟨y, hy, rfl⟩ := Option.map_eq_some_iff.1 h
  exact ⟨h1, y, hy, rfl⟩
theorem leave_sim {N : Nat} {a' : Act} {rs : Nat → R} {Ds : List Nat} (h : Sim (cxIn c N Ds) σ β a' w) (hf : σ.mem 999999 = some (.frame a.tmps.toList rs)) (hsz : a.tmps.size = c.N) (hdf : a.defers = Ds.map markD ++ c.df) :
  Sim c (S.leave σ) (fun o => β (upId o)) a w ∧ ∀ b, stF (cxIn c N Ds) σ β w b → stF c (S.leave σ) (fun o => β (upId o)) w b ∧ w.heap[b]? = w.heap[b]? := by
 have hβ : ∀ o, 1000000 ≤ o → (fun o => β (upId o)) (o - 1000000) = β o := fun o ho => congrArg β (upId_of ho)
 have hst : ∀ b, stF (cxIn c N Ds) σ β w b → stF c (S.leave σ) (fun o => β (upId o)) w b ∧ w.heap[b]? = w.heap[b]? := fun b hb => ⟨⟨hb.1, hb.2.1, fun o x hx => by
  obtain ⟨_, y, hy, _⟩ := leave_at hx
  exact hb.2.2.1 _ y hy, hb.2.2.2⟩, rfl⟩
 have hdf' : ∃ Ds' : List Nat, a.defers = Ds'.map markD ++ c.df ∧ MarksOk c (S.leave σ) (fun o => β (upId o)) w (Ds' ++ c.M) := by
  obtain ⟨Ds', _, m⟩ := h.df
  have m2 := m.keep (w' := w) (σ' := S.leave σ) (β' := fun o => β (upId o)) (fun _ _ _ => rfl) fun o x hx => by
   obtain ⟨_, y, hy, _⟩ := leave_at hx
   exact .inl ⟨_, y, hy, rfl⟩
  exact ⟨Ds, hdf, (List.nodup_append.1 m2.nd).2.1, fun D hD => m2.ok D (List.mem_append_right _ hD), m2.lp⟩
 refine ⟨⟨h.keep, hsz, hdf', c.hE hst h.ext, fun o x hx => ?_, fun o x b hx hb => ?_, fun o o' x x' b hx hx' hb hb' => ?_, fun t => ?_, h.env.mono hst⟩, hst⟩
 ·obtain ⟨_, y, hy, rfl⟩ := leave_at hx
  exact ObRel.down (β' := fun o => β (upId o)) hβ ((h.obj _ y hy).mono hst fun _ _ => rfl)
 ·obtain ⟨h1, y, hy, rfl⟩ := leave_at hx
  exact (h.blk _ y b hy hb).imp id fun hx => ⟨hx.1, by have := hx.2; rw [upId_eq] at this; omega⟩
 ·obtain ⟨_, y, hy, rfl⟩ := leave_at hx
  obtain ⟨_, y', hy', rfl⟩ := leave_at hx'
  exact upId_inj (h.dis _ _ y y' b hy hy' hb hb')
 ·have := RelR.down (β' := fun o => β (upId o)) hβ (((h.obj _ _ hf).2 t).mono hst)
  simp only [S.leave, hf, frR]
  rwa [show a.tmps.toList.getD t undef = a.tmps.getD t undef by rw [List.getD_eq_getElem?_getD, Array.getD_eq_getD_getElem?, Array.getElem?_toList]] at this
end
def resT : List ResultVar → Option (List Tmp)
 | [] => some []
 | .tmp t :: rs => (resT rs).map (t :: ·)
 | .cell _ _ :: _ => none
def fvOf : Option Ob → Option (List Value)
 | some (.frame vs _) => some vs
 | _ => none
noncomputable def postI (vs : List Value) (ts : List Tmp) (K : S → List R → Prop) : Ex → S → Prop
 | .normal, σ | .ret, σ => fvOf (σ.mem 999999) = some vs ∧ K σ.leave (ts.map fun t => (σ.regs t).down)
 | _, _ => False
theorem resT_at : ∀ {vs : List ResultVar} {ts : List Tmp}, resT vs = some ts → vs = ts.map ResultVar.tmp
 | [], ts, h => by cases h; rfl
 | .tmp t :: rs, ts, h => by
  obtain ⟨ts', h', rfl⟩ := Option.map_eq_some_iff.1 h
  rw [resT_at h']; rfl
 | .cell _ _ :: _, ts, h => by cases h
noncomputable def postG (vs : List Value) (ts : List Tmp) (K : S → List R → Prop) : Ex → S → Prop
 | .normal, σ | .ret, σ => ∃ σ', Ghost σ σ' ∧ fvOf (σ'.mem 999999) = some vs ∧ K σ'.leave (ts.map fun t => (σ'.regs t).down)
 | _, _ => False
theorem inl_bodyT {P : Program} {gl : Nat → Option (List D)} {f : FuncId} {fn : Func} {body : Code} {rs : List R} {ts : List Tmp} {σ : S} {K : S → List R → Prop} {vs0 : List Value} (hm : P.follows .mixedOrders = true)
  (hf : P.funcs[f]? = some fn) (hb : fn.body = some body) (hr : resT fn.results.toList = some ts) (hd : dstOK fn.ntmps body = true) (hN : decide (rs.length ≤ fn.ntmps) = true)
  (h : awp P gl body (postG vs0 ts K) (S.enter vs0 rs σ)) (c : Cx) (β : Nat → Value) (a : Act) (w : World) (vs : List Value) (hP : c.P = P) (hgl : c.gl = gl) (hvs : a.tmps.toList = vs0) (hs : Sim c σ β a w) (hv : F2 (RelR β (stF c σ β w) w) vs rs) :
  Calls P f vs.toArray w fun e w' => ∃ (us : List Value) (rs' : List R) (σ' : S) (β' : Nat → Value), e = .returned (retV us) ∧ Sim c σ' β' a w' ∧ F2 (RelR β' (stF c σ' β' w') w') us rs' ∧ K σ' rs' := by
 subst hP; subst hgl; subst hvs
 rw [← callsIn_wide (n := 0)]
 refine callsIn_of_wp_marks hf hb trivial ?_
 have hwf : Fence.wide = WF none := rfl
 obtain ⟨Ds, hds, hM⟩ := hs.df
 refine wpIn_mono (awp_sound (c := cxIn c fn.ntmps Ds) (ρ := none) hm body hd (.inl rfl) h (enter_sim hs hM hv (by simpa using hN))) fun e a' w' hq => ?_
 have fin : ∀ σ' β' a' w', Sim (cxIn c fn.ntmps Ds) σ' β' a' w' → fvOf (σ'.mem 999999) = some a.tmps.toList → K σ'.leave (ts.map fun t => (σ'.regs t).down) → ∃ v, (results fn a'.tmps).run c.P w' = .ok v w' ∧
   ∃ (us : List Value) (rs' : List R) (σ'' : S) (β'' : Nat → Value), Ending.returned v = .returned (retV us) ∧ Sim c σ'' β'' a w' ∧ F2 (RelR β'' (stF c σ'' β'' w') w') us rs' ∧ K σ'' rs' := by
  intro σ' β' a' w' hs' hfv hk
  obtain ⟨rs', hfr⟩ : ∃ rs', σ'.mem 999999 = some (.frame a.tmps.toList rs') := by
   unfold fvOf at hfv
   split at hfv
   ·rename_i vs' rs' e; cases hfv; exact ⟨rs', e⟩
   ·cases hfv
  obtain ⟨hl, hst⟩ := leave_sim (a := a) hs' hfr hs.size hds
  have hβ : ∀ o, 1000000 ≤ o → (fun o => β' (upId o)) (o - 1000000) = β' o := fun o ho => congrArg β' (upId_of ho)
  refine ⟨retV (ts.map fun t => a'.tmps.getD t undef), ?_, ts.map fun t => a'.tmps.getD t undef, _, _, _, rfl, hl, ⟨by simp, fun i u r hu hr' => ?_⟩, hk⟩
  ·have hrun : (fn.results.mapM (resG a'.tmps)).run c.P w' = .ok (ts.map fun t => a'.tmps.getD t undef).toArray w' := by
    have e1 : (ts.map fun t => a'.tmps.getD t undef) = fn.results.toList.map (resV c.P a'.tmps w') := by
     rw [resT_at hr, List.map_map]; rfl
    rw [e1]
    exact run_mapM_arr _ (resV c.P a'.tmps w') fun v hv => by
     have : v ∈ fn.results.toList := by simpa using hv
     rw [resT_at hr] at this
     obtain ⟨t, _, rfl⟩ := List.mem_map.1 this
     rfl
   have : results fn a'.tmps = (do let vs ← fn.results.mapM (resG a'.tmps); pure (if h : vs.size = 1 then vs[0] else .tuple vs)) := rfl
   rw [this, Sem.run_bind, hrun, Result.andThen_ok]
   show Result.ok _ _ = _
   congr 1
   match ts with
   | [] => rfl
   | [_] => rfl
   | _ :: _ :: _ => simp [retV]
  ·simp only [List.getElem?_map, Option.map_eq_some_iff] at hu hr'
   obtain ⟨t, ht, rfl⟩ := hu
   obtain ⟨t', ht', rfl⟩ := hr'
   rw [ht] at ht'; cases ht'
   exact RelR.down (β' := fun o => β' (upId o)) hβ ((hs'.reg t).mono hst)
 have out : ∀ σ' β', Sim (cxIn c fn.ntmps Ds) σ' β' a' w' → postG a.tmps.toList ts K .ret σ' → LeavesInM Fence.wide 0 c.P fn a'.tmps (fun e w' => ∃ (us : List Value) (rs' : List R) (σ' : S) (β' : Nat → Value), e = .returned (retV us) ∧ Sim c σ' β' a w' ∧ F2 (RelR β' (stF c σ' β' w') w') us rs' ∧ K σ' rs') a'.defers .returning w' := by
  rintro σ' β' hs' ⟨σ'', hg, hk⟩
  obtain ⟨β'', hs''⟩ := hg _ _ _ _ hs'
  obtain ⟨Ds', hd', hm'⟩ := hs''.df
  rw [show (cxIn c fn.ntmps Ds).df = [] from rfl, List.append_nil] at hd'
  rw [hd']
  exact marks_out (c := cxIn c fn.ntmps Ds) rfl Ds' hs'' hd' hm' fun a2 w2 _ _ hs2 => fin σ'' β'' a2 w2 hs2 hk.1 hk.2
 cases e with
 | normal => obtain ⟨σ', β', hs', hk⟩ := hq; exact out σ' β' hs' hk
 | ret => obtain ⟨σ', β', hs', hk⟩ := hq; exact out σ' β' hs' hk
 | exit id => obtain ⟨σ', β', hs', hk⟩ := hq; exact hk.elim
 | goto l => exact hq.elim
 | panic ch => obtain ⟨_, _, _, _, _, _, _, _, hk⟩ := hq; exact hk.elim
 | outgrown => exact hq.elim
theorem inl_bodyG {P : Program} {gl : Nat → Option (List D)} {f : FuncId} {fn : Func} {body : Code} {rs : List R} {ts : List Tmp} {σ : S} {K : S → List R → Prop} (hm : P.follows .mixedOrders = true)
  (hf : P.funcs[f]? = some fn) (hb : fn.body = some body) (hr : resT fn.results.toList = some ts) (hname : (fn.name == "runtime.NumGoroutine") = false) (hd : dstOK fn.ntmps body = true) (hN : decide (rs.length ≤ fn.ntmps) = true)
  (h : ∀ vs, awp P gl body (postG vs ts K) (S.enter vs rs σ)) : Inl P gl f rs σ K :=
 ⟨⟨fn, hf, by rw [hb]; rfl, hname⟩, fun c β a w vs hP hgl hs hv => inl_bodyT hm hf hb hr hd hN (h a.tmps.toList) c β a w vs hP hgl rfl hs hv⟩
theorem allD_map : ∀ (ds : List D), allD (ds.map fun d => R.a (.d d)) = some ds
 | [] => rfl
 | d :: ds => by simp [allD, allD_map ds]
theorem st_eref_one {P : Program} {σ : S} {t o i sz j : Nat} {ti : TI} {e : TypeId} {xs : List (List D)} {y : List D} {d : D} (hti : tinf P t = some ti) (hm : σ.mem o = some (.log e sz xs)) (hy : xs[i]? = some y) (hyl : y.length = sz) (hj : j < sz) (hsz : ti.sz = 1) :
  storeR P σ t (.eref o i sz j) (.a (.d d)) = some (σ.setOb o (.log e sz (xs.set i (y.set j d)))) := by
 simp only [storeR, hti, cellsR, hm, hy, allD]
 rw [if_pos (by simp [hsz])]
 simp only [Option.map_some]
 rw [if_pos (by simp; omega)]
noncomputable def upF (reg : Nat → R) : Nat → R := fun t => (reg t).up
def killR (o : Nat) (reg : Nat → R) : Nat → R := fun t => (reg t).kill o
def frzR (o : Nat) (f : Nat → D) (reg : Nat → R) : Nat → R := fun t => (reg t).frz o f
theorem kr_go {o t : Nat} {reg : Nat → R} : killR o reg t = (reg t).kill o := rfl
theorem fz_go {o t : Nat} {f : Nat → D} {reg : Nat → R} : frzR o f reg t = (reg t).frz o f := rfl
section
variable {vs : List Value} {rs : List R} {σ : S} {o t f : Nat} {reg : Nat → R}
theorem up_any : R.up .any = .any := rfl
theorem up_a {x : A} : R.up (.a x) = .a x := rfl
theorem up_cs {xs : List (List D)} : R.up (.cs xs) = .cs xs := rfl
theorem up_ref : R.up (.ref o f) = .ref (upId o) f := rfl
theorem up_eref {i s j : Nat} : R.up (.eref o i s j) = .eref (upId o) i s j := rfl
theorem up_own : R.up (.own o) = .own (upId o) := rfl
theorem up_omp : R.up (.omp o) = .omp (upId o) := rfl
theorem up_tp : R.up (.tp []) = .tp [] := rfl
theorem up_clo {g : FuncId} : R.up (.clo g [(o, f)]) = .clo g [(upId o, f)] := rfl
theorem dn_any : R.down .any = .any := rfl
theorem dn_a {x : A} : R.down (.a x) = .a x := rfl
theorem dn_cs {xs : List (List D)} : R.down (.cs xs) = .cs xs := rfl
theorem dn_ref : R.down (.ref (upId o) f) = .ref o f := by simp [R.down, upId_sub, upId_le]
theorem dn_eref {i s j : Nat} : R.down (.eref (upId o) i s j) = .eref o i s j := by simp [R.down, upId_sub, upId_le]
theorem dn_own : R.down (.own (upId o)) = .own o := by simp [R.down, upId_sub, upId_le]
theorem dn_omp : R.down (.omp (upId o)) = .omp o := by simp [R.down, upId_sub, upId_le]
theorem dn_tp : R.down (.tp []) = .tp [] := rfl
theorem dn_clo {g : FuncId} : R.down (.clo g [(upId o, f)]) = .clo g [(o, f)] := by simp [R.down, upId_sub, upId_le]
theorem ou_log {e : TypeId} {z : Nat} {xs : List (List D)} : Ob.up (.log e z xs) = .log e z xs := rfl
theorem ou_box {cs : List R} : Ob.up (.box cs) = .box (cs.map R.up) := rfl
theorem ou_mpo {kv : List (Int × D)} : Ob.up (.mpo kv) = .mpo kv := rfl
theorem od_log {e : TypeId} {z : Nat} {xs : List (List D)} : Ob.down (.log e z xs) = .log e z xs := rfl
theorem od_box {cs : List R} : Ob.down (.box cs) = .box (cs.map R.down) := rfl
theorem od_mpo {kv : List (Int × D)} : Ob.down (.mpo kv) = .mpo kv := rfl
theorem en_r : (S.enter vs rs σ).regs t = argR rs t := rfl
theorem ar_0 {r : R} : argR (r :: rs) 0 = r.up := rfl
theorem ar_s {r : R} {n : Nat} : argR (r :: rs) (n + 1) = argR rs n := rfl
theorem ar_n : argR [] t = .any := rfl
theorem me_f : (S.enter vs rs σ).mem 999999 = some (.frame vs (upF σ.regs)) := by
 simp only [S.enter]
 rw [if_pos (by omega), if_pos trivial]; rfl
theorem me_hi (h : decide (o < 999000000) = true) : (S.enter vs rs σ).mem (upId o) = (σ.mem o).map Ob.up := by
 have := of_decide_eq_true h
 have h1 := upId_eq o
 simp only [S.enter]
 rw [if_neg (by omega), if_neg (by omega), upId_sub]
theorem ne_up {o' : Nat} (h : o < 1000000) : (upId o' == o) = false := beq_eq_false_iff_ne.2 (by have := upId_le o'; omega)
theorem any_up1 (h : o < 1000000) : ∀ l : List Nat, ((l.map upId).any fun o' => o' == o) = false
 | [] => rfl
 | x :: l => by simp only [List.map_cons, List.any_cons, ne_up h, any_up1 h l, Bool.or_self]
theorem any_up2 (h : o < 1000000) : ∀ l : List (Nat × Nat), ((l.map fun c => (upId c.1, c.2)).any fun c => c.1 == o) = false
 | [] => rfl
 | x :: l => by simp only [List.map_cons, List.any_cons, ne_up h, any_up2 h l, Bool.or_self]
theorem says_up_lo {r : R} (h : o < 1000000) : r.up.says o = false := by
 cases r with
 | any => rfl
 | a x => rfl
 | cs x => rfl
 | ref o' f => exact ne_up h
 | eref o' i s j => exact ne_up h
 | own o' => exact ne_up h
 | omp o' => exact ne_up h
 | clo g caps => exact any_up2 h caps
 | tp xs => cases xs <;> rfl
 | agr xs => rfl
 | sem os p => exact any_up1 h os
theorem kill_up_lo {r : R} (h : o < 1000000) : r.up.kill o = r.up := by
 unfold R.kill; rw [says_up_lo h]; rfl
theorem frz_not {r : R} {g : Nat → D} (h : r.says o = false) : r.frz o g = r := by
 cases r with
 | any => rfl
 | a x => rfl
 | cs x => rfl
 | ref o' f =>
  have : ¬ o' = o := by simpa [R.says, R.says0] using h
  simp [R.frz, this]
 | own o' =>
  have : ¬ o' = o := by simpa [R.says, R.says0] using h
  simp [R.frz, this]
 | omp o' =>
  have : ¬ o' = o := by simpa [R.says, R.says0] using h
  simp [R.frz, this]
 | eref o' i s j => show (if _ then _ else _) = _; rw [h]; rfl
 | clo f caps => show (if _ then _ else _) = _; rw [h]; rfl
 | tp xs => show (if _ then _ else _) = _; rw [h]; rfl
 | agr xs => show (if _ then _ else _) = _; rw [h]; rfl
 | sem os p => show (if _ then _ else _) = _; rw [h]; rfl
theorem frz_up_lo {r : R} {g : Nat → D} (h : o < 1000000) : r.up.frz o g = r.up := frz_not (says_up_lo h)
theorem beq_up2 {o' : Nat} : (upId o' == upId o) = (o' == o) := by
 by_cases h : o' = o
 ·subst h; simp
 ·rw [beq_eq_false_iff_ne.2 h, beq_eq_false_iff_ne.2 fun e => h (upId_inj e)]
theorem any_hi1 : ∀ l : List Nat, ((l.map upId).any fun o' => o' == upId o) = l.any fun o' => o' == o
 | [] => rfl
 | x :: l => by simp only [List.map_cons, List.any_cons, beq_up2, any_hi1 l]
theorem any_hi2 : ∀ l : List (Nat × Nat), ((l.map fun c => (upId c.1, c.2)).any fun c => c.1 == upId o) = l.any fun c => c.1 == o
 | [] => rfl
 | x :: l => by simp only [List.map_cons, List.any_cons, beq_up2, any_hi2 l]
theorem says_up_hi {r : R} (h : ∀ x xs, r ≠ .tp (x :: xs)) (h' : ∀ xs, r ≠ .agr xs) : r.up.says (upId o) = r.says o := by
 cases r with
 | any => rfl
 | a x => rfl
 | cs x => rfl
 | ref o' f => exact beq_up2
 | eref o' i s j => exact beq_up2
 | own o' => exact beq_up2
 | omp o' => exact beq_up2
 | clo g caps => exact any_hi2 caps
 | tp xs =>
  cases xs with
  | nil => rfl
  | cons x xs => exact absurd rfl (h x xs)
 | agr xs => exact absurd rfl (h' xs)
 | sem os p => exact any_hi1 os
theorem kill_up_hi {r : R} : r.up.kill (upId o) = (r.kill o).up := by
 by_cases h' : ∃ xs, r = .agr xs
 ·obtain ⟨xs, rfl⟩ := h'
  show R.any = _
  unfold R.kill; split <;> rfl
 ·by_cases h : ∀ x xs, r ≠ .tp (x :: xs)
  ·unfold R.kill; rw [says_up_hi h fun xs e => h' ⟨xs, e⟩]; split <;> rfl
  ·simp only [ne_eq, Classical.not_forall, Classical.not_not] at h
   obtain ⟨x, xs, rfl⟩ := h
   show R.any = _
   unfold R.kill; split <;> rfl
theorem frz_up_hi {r : R} {g : Nat → D} : r.up.frz (upId o) g = (r.frz o g).up := by
 have e : ∀ {o'}, (upId o' = upId o) = (o' = o) := fun {o'} => propext ⟨upId_inj, fun h => h ▸ rfl⟩
 cases r with
 | any => rfl
 | a x => rfl
 | cs x => rfl
 | ref o' f => simp only [R.up, R.frz, e]; split <;> rfl
 | own o' => simp only [R.up, R.frz, e]; split <;> rfl
 | omp o' => simp only [R.up, R.frz, e]; split <;> rfl
 | eref o' i s j =>
  have := says_up_hi (o := o) (r := .eref o' i s j) (fun x xs h => by cases h) (fun xs h => by cases h)
  show (if _ then _ else _) = R.up (if _ then _ else _)
  rw [this]; split <;> rfl
 | clo f caps =>
  have := says_up_hi (o := o) (r := .clo f caps) (fun x xs h => by cases h) (fun xs h => by cases h)
  show (if _ then _ else _) = R.up (if _ then _ else _)
  rw [this]; split <;> rfl
 | tp xs =>
  cases xs with
  | nil => rfl
  | cons x xs => show R.any = R.up (if _ then _ else _); split <;> rfl
 | agr xs => show R.any = R.up (if _ then _ else _); split <;> rfl
 | sem os p =>
  have := says_up_hi (o := o) (r := .sem os p) (fun x xs h => by cases h) (fun xs h => by cases h)
  show (if _ then _ else _) = R.up (if _ then _ else _)
  rw [this]; split <;> rfl
theorem kf_lo (h : decide (o < 1000000) = true) : Ob.kill o (.frame vs (upF reg)) = .frame vs (upF reg) := by
 simp only [Ob.kill]; congr 1; exact funext fun t => kill_up_lo (of_decide_eq_true h)
theorem kf_hi : Ob.kill (upId o) (.frame vs (upF reg)) = .frame vs (upF (killR o reg)) := by
 simp only [Ob.kill]; congr 1; exact funext fun t => kill_up_hi
theorem ff_lo {g : Nat → D} (h : decide (o < 1000000) = true) : Ob.frz o g (.frame vs (upF reg)) = .frame vs (upF reg) := by
 simp only [Ob.frz]; congr 1; exact funext fun t => frz_up_lo (of_decide_eq_true h)
theorem ff_hi {g : Nat → D} : Ob.frz (upId o) g (.frame vs (upF reg)) = .frame vs (upF (frzR o g reg)) := by
 simp only [Ob.frz]; congr 1; exact funext fun t => frz_up_hi
theorem lv_r : (S.leave σ).regs t = frR (σ.mem 999999) t := rfl
theorem lv_f : frR (some (.frame vs (upF reg))) t = ((reg t).up).down := rfl
theorem lv_m (h : decide (o < 999000000) = true) : (S.leave σ).mem o = (σ.mem (upId o)).map Ob.down := by
 have := of_decide_eq_true h
 simp only [S.leave]; rw [if_neg (by omega)]
theorem fv_go : fvOf (some (.frame vs reg)) = some vs := rfl
theorem pi_r {ts : List Tmp} {K : S → List R → Prop} : postI vs ts K .ret σ = (fvOf (σ.mem 999999) = some vs ∧ K σ.leave (ts.map fun t => (σ.regs t).down)) := rfl
theorem pi_n {ts : List Tmp} {K : S → List R → Prop} : postI vs ts K .normal σ = (fvOf (σ.mem 999999) = some vs ∧ K σ.leave (ts.map fun t => (σ.regs t).down)) := rfl
theorem up_beq {d : Nat} (h : decide (d < 1000000) = true) : (upId o == d) = false := ne_up (of_decide_eq_true h)
theorem beq_up {d : Nat} (h : decide (d < 1000000) = true) : (d == upId o) = false := by
 rw [BEq.comm]; exact ne_up (of_decide_eq_true h)
theorem up_up {o' : Nat} : (upId o == upId o') = (o == o') := beq_up2
theorem up_lt (h : decide (o < 999000000) = true) : decide (upId o < 1000000000) = true := by
 have := of_decide_eq_true h
 have := upId_eq o
 exact decide_eq_true (by omega)
theorem up_ltP (h : decide (o < 999000000) = true) : (upId o < 1000000000) = True := eq_true (of_decide_eq_true (up_lt h))
end
def PI :=
 And.intro (@kr_go) <| And.intro (@fz_go) <| And.intro (@up_any) <| And.intro (@up_a) <| And.intro (@up_cs) <| And.intro (@up_ref) <| And.intro (@up_eref) <| And.intro (@up_own) <| And.intro (@up_omp) <| And.intro (@up_tp) <| And.intro (@up_clo) <| And.intro (@dn_any) <| And.intro (@dn_a) <| And.intro (@dn_cs) <| And.intro (@dn_ref) <| And.intro (@dn_eref) <| And.intro (@dn_own) <| And.intro (@dn_omp) <| And.intro (@dn_tp) <| And.intro (@dn_clo) <| And.intro (@ou_log) <| And.intro (@ou_box) <| And.intro (@ou_mpo) <| And.intro (@od_log) <| And.intro (@od_box) <| And.intro (@od_mpo) <| And.intro (@en_r) <| And.intro (@ar_0) <| And.intro (@ar_s) <| And.intro (@ar_n) <| And.intro (@me_f) <| And.intro (@me_hi) <| And.intro (@kf_lo) <| And.intro (@kf_hi) <| And.intro (@ff_lo) <| And.intro (@ff_hi) <| And.intro (@lv_r) <| And.intro (@lv_f) <| And.intro (@lv_m) <| And.intro (@fv_go) <| And.intro (@pi_r) <| And.intro (@pi_n) <| And.intro (@up_beq) <| And.intro (@beq_up) <| And.intro (@up_lt) <| And.intro (@up_ltP) <| @up_up
attribute [go_sem] PI
end Go.VC
end
section
set_option maxRecDepth 100000
namespace Go.VC
open Go.RowKit Go.Proofs
section
variable {c : Cx} {σ : S} {β : Nat → Value} {a : Act} {w : World}
theorem stF_setOb {o : Nat} {x y : Ob} (hm : σ.mem o = some y) {b : Nat} (h : stF c σ β w b) : stF c (σ.setOb o x) β w b := ⟨h.1, h.2.1, fun o' z hz => by
 by_cases e : o' = o
 ·subst e; exact h.2.2.1 o' _ hm
 ·simp only [S.setOb, upd, if_neg e] at hz; exact h.2.2.1 o' z hz, h.2.2.2⟩
theorem Sim.tell (h : Sim c σ β a w) {o : Nat} {x y : Ob} (hm : σ.mem o = some y) (hx : ∀ st, (∀ b, stF c σ β w b → st b) → ObRel β st w (β o) x) : Sim c (σ.setOb o x) β a w :=
 h.setOb hm (Keep.refl _ _) (hx _ fun b hb => stF_setOb hm hb)
theorem Sim.reg_set (h : Sim c σ β a w) (t : Nat) {r : R} (hr : RelR β (stF c σ β w) w (a.tmps.getD t undef) r) : Sim c { σ with regs := upd σ.regs t r } β a w :=
 ⟨h.keep, h.size, h.dfs (fun _ _ => rfl) (fun o x hx => .inl ⟨o, x, hx, rfl⟩), h.ext, h.obj, h.blk, h.dis, fun t' => by
  simp only [upd]
  split
  ·rename_i e; subst e; exact hr
  ·exact h.reg t', h.env⟩
end
theorem Ghost.refl (σ : S) : Ghost σ σ := fun _ β _ _ h => ⟨β, h⟩
theorem Ghost.trans {σ σ' σ'' : S} (h : Ghost σ σ') (k : Ghost σ' σ'') : Ghost σ σ'' := fun c β a w hs => let ⟨β', h'⟩ := h c β a w hs; k c β' a w h'
theorem SemOp.old {P : Program} {gl : Nat → Option (List D)} {o : Oper} {σ : S} {K : S → Prop} (h : opA0 P gl o σ K) : SemOp P gl o σ K := fun c β a w hP hgl hs hd => by
 subst hP; subst hgl; exact opA0_sound hs hd h
theorem logV_dep {β β' : Nat → Value} {st st' : Nat → Prop} {w : World} {e : TypeId} {ids : List Nat} {bv : Value} (h : ∀ o ∈ ids, β' o = β o) (k : ObRel β st w bv (.log e 1 (ids.map fun i => [.v (β i)]))) : ObRel β' st' w bv (.log e 1 (ids.map fun i => [.v (β' i)])) := by
 have e1 : (ids.map fun i => [D.v (β' i)]) = ids.map fun i => [.v (β i)] := List.map_congr_left fun i hi => by rw [h i hi]
 rw [e1]
 obtain ⟨cells, hr, hf, hl⟩ := k
 refine ⟨cells, hr, ⟨hf.1, fun i u d hu hd => ?_⟩, hl⟩
 have h1 := hf.2 i u d hu hd
 have hmem := List.mem_of_getElem? hd
 obtain ⟨l, hl', hdl⟩ := List.mem_flatten.1 hmem
 obtain ⟨j, _, rfl⟩ := List.mem_map.1 hl'
 simp at hdl; subst hdl
 cases h1 with | v h => exact .v h
theorem mpV_dep {β β' : Nat → Value} {st st' : Nat → Prop} {w : World} {kv : List (Int × Nat)} {bv : Value} (h : ∀ o ∈ kv.map (·.2), β' o = β o) (k : ObRel β st w bv (.mpo (kv.map fun p => (p.1, .v (β p.2))))) : ObRel β' st' w bv (.mpo (kv.map fun p => (p.1, .v (β' p.2)))) := by
 have e1 : (kv.map fun p => (p.1, D.v (β' p.2))) = kv.map fun p => (p.1, .v (β p.2)) := List.map_congr_left fun i hi => by rw [h i.2 (List.mem_map.2 ⟨i, hi, rfl⟩)]
 rw [e1]
 obtain ⟨r, clock, es, vs, hb, hh, hl, hs, hk, hd⟩ := k
 refine ⟨r, clock, es, vs, hb, hh, hl, hs, hk, fun i p hp => ?_⟩
 have h1 := hd i p hp
 simp only [List.getElem?_map, Option.map_eq_some_iff] at hp
 obtain ⟨q, _, rfl⟩ := hp
 simp only at h1 ⊢
 generalize vs i = u at h1 ⊢
 cases h1 with | v h => exact .v h
def rrow (e : TypeId) (ids : List Nat) : SemOb where
 os := ids
 p := fun β st w bv => ObRel β (fun _ => False) w bv (.log e 1 (ids.map fun i => [.v (β i)]))
 lt := fun h b hb => ObRel.lt h hb
 mono := fun H h k => ObRel.mono (fun b hb => hb.elim) h k
 dep := fun h k => logV_dep h k
def rmp (kv : List (Int × Nat)) : SemOb where
 os := kv.map (·.2)
 p := fun β st w bv => ObRel β (fun _ => False) w bv (.mpo (kv.map fun p => (p.1, .v (β p.2))))
 lt := fun h b hb => ObRel.lt h hb
 mono := fun H h k => ObRel.mono (fun b hb => hb.elim) h k
 dep := fun h k => mpV_dep h k
section
variable {σ : S}
theorem g_row_nil {o : Nat} {e : TypeId} (hm : σ.mem o = some (.log e 1 [])) : Ghost σ (σ.setOb o (.sem (rrow e []))) := fun c β a w hs => ⟨β, hs.tell hm fun st hst => logV_dep (ids := []) (fun o ho => by simp at ho) (hs.obj o _ hm)⟩
theorem g_map_nil {o : Nat} (hm : σ.mem o = some (.mpo [])) : Ghost σ (σ.setOb o (.sem (rmp []))) := fun c β a w hs => ⟨β, hs.tell hm fun st hst => mpV_dep (kv := []) (fun o ho => by simp at ho) (hs.obj o _ hm)⟩
end
section
variable {P : Program} {gl : Nat → Option (List D)} {σ : S} {K : S → Prop} {dst : Option Tmp} {ty : TypeId} {pos : String} {after : Array Edge} {g : Option (Nat × Bool)}
theorem run_equalIn_ptr {P : Program} {w : World} (d : Nat) {t e : TypeId} (ht : P.underlying t = some (.pointer e)) (p : Option Addr) (hsp : ∀ ad, p = some ad → ad.spot = none) : (Op.equalIn (d + 1) t (.pointer p) (.pointer none)).run P w = .ok p.isNone w := by
 cases p <;> simp [Op.equalIn, run_underlying ht]
theorem run_ptr_nil {P : Program} {w : World} {op : BinOp} {neg : Bool} (hop : (op = .eql ∧ neg = false) ∨ (op = .neq ∧ neg = true)) {t e : TypeId} (ht : P.underlying t = some (.pointer e)) {x : Operand} {p : Option Addr} (hsp : ∀ ad, p = some ad → ad.spot = none) :
  (do eqGuard op t x (.const (.pointer none)) (.pointer p) (.pointer none); binOp op t (.pointer p) (.pointer none) : Sem Value).run P w = .ok (.bool (p.isNone != neg)) w := by
 have h := run_equalIn_ptr (P := P) (w := w) 9999 ht p hsp
 rcases hop with ⟨rfl, rfl⟩ | ⟨rfl, rfl⟩
 ·simp only [Sem.run_bind, eqGuard, Result.andThen_ok, binOp, Op.equal, Op.maxDepth]
  simp [h]
 ·simp only [Sem.run_bind, eqGuard, Result.andThen_ok, binOp, Op.equal, Op.maxDepth]
  simp [h]
theorem sem_ptr_nil {op : BinOp} {neg : Bool} (hop : (op = .eql ∧ neg = false) ∨ (op = .neq ∧ neg = true)) {t e u : TypeId} (ht : P.underlying t = some (.pointer e)) {x : Operand} {b : Bool}
  (hx : (σ.eval gl x = .a (.d (.v (.pointer none))) ∧ b = true) ∨ (∃ q off, σ.eval gl x = .ref q off ∧ b = false))
  (hk : K (σ.put dst (.a (B (b != neg))))) : SemOp P gl ⟨dst, .binOp op t x (.const (.pointer none)) u, ty, pos, after, g⟩ σ K := by
 intro c β a w hP hgl hs hd
 subst hP; subst hgl
 have hv := hs.eval x
 obtain ⟨p, hp, hb⟩ : ∃ p : Option Addr, a.eval x = .pointer p ∧ p.isNone = b ∧ (∀ ad, p = some ad → ad.spot = none) := by
  rcases hx with ⟨hx, rfl⟩ | ⟨q, off, hx, rfl⟩
  ·rw [hx] at hv; exact ⟨none, hv.inv_v, rfl, fun ad h => by cases h⟩
  ·rw [hx] at hv
   obtain ⟨bl, _, e⟩ := hv.inv_ref
   exact ⟨_, e, rfl, fun ad h => by cases h; rfl⟩
 refine Run.val (v := .bool (b != neg)) (w' := w) (fun _ e => by cases e) ?_ ⟨_, β, hk, hs.put hd (.a (x := B (b != neg)) (.v rfl))⟩
 have he : a.eval (.const (.pointer none)) = .pointer none := rfl
 obtain ⟨hb, hsp⟩ := hb
 subst hb
 have hr := run_ptr_nil (P := c.P) (w := w) hop ht (x := x) (p := p) hsp
 simp only [execOp, hp, he, Sem.run_bind] at hr ⊢
 rw [hr]; rfl
def kvN : List (Int × Nat) → Int → Option Nat
 | [], _ => none
 | (k, x) :: kv, n => if k = n then some x else kvN kv n
theorem kvN_map (f : Nat → D) (n : Int) : ∀ kv : List (Int × Nat), kvGet (kv.map fun p => (p.1, f p.2)) n = (kvN kv n).map f
 | [] => rfl
 | (k, x) :: kv => by
  simp only [List.map_cons, kvGet, kvN]
  split
  ·rfl
  ·exact kvN_map f n kv
theorem kvN_mem {n : Int} {q : Nat} : ∀ {kv : List (Int × Nat)}, kvN kv n = some q → (n, q) ∈ kv
 | (k, x) :: kv, h => by
  simp only [kvN] at h
  split at h
  ·rename_i e; cases h; subst e; simp
  ·exact List.mem_cons_of_mem _ (kvN_mem h)
theorem kvN_new (f : Nat → D) {n : Int} {q : Nat} : ∀ {kv : List (Int × Nat)}, kvN kv n = none → kvSet (kv.map fun p => (p.1, f p.2)) n (f q) = (kv ++ [(n, q)]).map fun p => (p.1, f p.2)
 | [], _ => rfl
 | (k, x) :: kv, h => by
  simp only [kvN] at h
  split at h
  ·cases h
  ·rename_i e
   simp only [List.map_cons, List.cons_append, kvSet, if_neg e, kvN_new f h]
theorem box_ptr {c : Cx} {β : Nat → Value} {a : Act} {w : World} (hs : Sim c σ β a w) {q : Nat} {cs : List R} (hm : σ.mem q = some (.box cs)) : ∃ b, β q = .pointer (some ⟨b, 0, none⟩) := by
 obtain ⟨b, _, _, hb, _⟩ := hs.obj q _ hm
 exact ⟨b, hb⟩
theorem sem_lookup {t : TypeId} (hz : mapT P t = some (.v (.pointer none))) {x i : Operand} {o : Nat} {kv : List (Int × Nat)} {n : Int} (hx : σ.eval gl x = .omp o) (hm : σ.mem o = some (.sem (rmp kv))) (hi : σ.eval gl i = .a (.d (.v (.int .i64 n))))
  (hbox : ∀ p ∈ kv, ∃ cs, σ.mem p.2 = some (.box cs))
  (h1 : ∀ q, kvN kv n = some q → K (σ.put dst (.ref q 0))) (h2 : kvN kv n = none → K (σ.put dst (.a (.d (.v (.pointer none)))))) : SemOp P gl ⟨dst, .lookup t x i false, ty, pos, after, g⟩ σ K := by
 intro c β a w hP hgl hs hd
 subst hP; subst hgl
 have hs1 := hs.tell (x := .mpo (kv.map fun p => (p.1, .v (β p.2)))) hm fun st hst => mpV_dep (st := fun _ => False) (fun _ _ => rfl) (show ObRel β (fun _ => False) w (β o) (.mpo (kv.map fun p => (p.1, .v (β p.2)))) from hs.obj o _ hm)
 have he : ∀ y, (σ.setOb o (.mpo (kv.map fun p => (p.1, .v (β p.2))))).eval c.gl y = σ.eval c.gl y := fun y => by cases y <;> rfl
 have hr : lookR c.P (σ.setOb o (.mpo (kv.map fun p => (p.1, .v (β p.2))))) t ((σ.setOb o (.mpo (kv.map fun p => (p.1, .v (β p.2))))).eval c.gl x) ((σ.setOb o (.mpo (kv.map fun p => (p.1, .v (β p.2))))).eval c.gl i) false = some (.a (.d (((kvN kv n).map fun q => D.v (β q)).getD (.v (.pointer none))))) := by
  rw [he, he, hx, hi]
  have hmo : (σ.setOb o (.mpo (kv.map fun p => (p.1, .v (β p.2))))).mem o = some (.mpo (kv.map fun p => (p.1, .v (β p.2)))) := by simp [S.setOb, upd]
  simp only [lookR, hz, mapOf, hmo]
  rw [kvN_map fun q => D.v (β q)]
 obtain ⟨v, hrun, hrel⟩ := look_run hs1 hr
 cases hq : kvN kv n with
 | none =>
  rw [hq] at hrel
  have hv : v = .pointer none := hrel.inv_v
  exact Run.val (v := v) (w' := w) (fun _ e => by cases e) (by simp [execOp, hrun]) ⟨_, β, h2 hq, hs.put hd (by rw [hv]; exact .a (x := .d (.v (.pointer none))) (.v rfl))⟩
 | some q =>
  rw [hq] at hrel
  have hv : v = β q := hrel.inv_v
  obtain ⟨cs, hcs⟩ := hbox _ (kvN_mem hq)
  obtain ⟨b, hb⟩ := box_ptr hs hcs
  exact Run.val (v := v) (w' := w) (fun _ e => by cases e) (by simp [execOp, hrun]) ⟨_, β, h1 q hq, hs.put hd (by rw [hv, hb]; exact .ref hb)⟩
theorem sem_upd {t : TypeId} {kt e : TypeId} (ht : P.underlying t = some (.map kt e)) (hkt : P.underlying kt = some (.int .i64)) {m k v : Operand} {o q : Nat} {kv : List (Int × Nat)} {n : Int} {cs : List R} (hx : σ.eval gl m = .omp o) (hm : σ.mem o = some (.sem (rmp kv))) (hk : σ.eval gl k = .a (.d (.v (.int .i64 n))))
  (hv : σ.eval gl v = .ref q 0) (hq : σ.mem q = some (.box cs)) (hn : kvN kv n = none)
  (h1 : K ((σ.setOb o (.sem (rmp (kv ++ [(n, q)])))).put dst .any)) : SemOp P gl ⟨dst, .mapUpdate t m k v, ty, pos, after, g⟩ σ K := by
 intro c β a w hP hgl hs hd
 subst hP; subst hgl
 have hkv := hs.eval k
 rw [hk] at hkv
 have hkv := hkv.inv_v
 have hmv := hs.eval m
 rw [hx] at hmv
 have hmb : β o = a.eval m := by
  generalize a.eval m = mv at hmv ⊢
  cases hmv with | omp e _ => exact e
 have hvv := hs.eval v
 rw [hv] at hvv
 obtain ⟨b, hb, hvb⟩ := hvv.inv_ref
 obtain ⟨r, clock, es, vs, hbr, hh, hl, hsm, hkk, hdd⟩ := hs.obj o _ hm
 have hy : Rd (fun _ => False) w (a.eval v) (.v (β q)) := by rw [hvb, hb]; exact .v rfl
 obtain ⟨es', clock', vs', hrun, hl', hs', hk', hd'⟩ := upd_run (n := n) (m := t) ht hkt hh hl hsm hkk hdd hy
 have hset := MapKept.heap_set (o' := Obj.map es' clock') hh
 have keep : Keep (fun b => ownB (β o) = some b) w { w with heap := w.heap.setIfInBounds r (.map es' clock') } := ⟨rfl, rfl, rfl, by simp, fun b _ hb' => hset.2 b fun e => hb' (by rw [hbr, e]; rfl)⟩
 rw [kvN_new (fun q => D.v (β q)) hn] at hl' hk' hd'
 have hz := hs.setOb (x := .sem (rmp (kv ++ [(n, q)]))) hm keep ⟨r, clock', es', vs', hbr, hset.1, hl', hs', hk', fun i p hp => (hd' i p hp).mono fun b hb' => hb'.elim⟩
 refine Run.skip (fun _ e => by cases e) ?_ ⟨_, β, h1, hz.put hd .any⟩
 simp only [execOp]
 rw [hkv, ← hmb, hbr]
 simp only [Sem.run_bind, hrun, Result.andThen_ok, Sem.run_pure]
theorem run_bs1 {w : World} {t e : TypeId} {ti : TI} (ht : P.underlying t = some (.slice e)) (hti : tinf P e = some ti) (hsz : ti.sz = 1) {z0 : Value} (hz : ti.z = [z0]) {v : Value} (hv : v.oneCell' = true) :
  (Instr.buildSlice t 1 #[(0, v)]).run P w = .ok (.slice (some ⟨w.heap.size, 0, none⟩) 1 1) (w.alloc (.cells #[v] e)) := by
 obtain ⟨z, hz1, hz2⟩ := run_zero (w := w) hti
 have hzc : z.cells = #[z0] := by rw [hz] at hz2; exact (Array.toList_inj.1 (by simpa using hz2.symm))
 have hvc := cells_one hv
 simp only [Instr.buildSlice, Sem.run_bind, run_under ht, Result.andThen_ok, run_size hti, hsz]
 rw [if_neg (by decide), if_neg (by decide)]
 simp only [Sem.run_bind, hz1, Result.andThen_ok, Sem.run_pure, hzc]
 have hf : Instr.fill (fun i => some (i * 1, 1)) (Array.map (fun x => #[z0][x % #[z0].size]!) (Array.range (1 * 1))) [(0, v)] = some #[v] := by
  rw [show Array.range (1 * 1) = #[0] from rfl]
  simp [Instr.fill, hvc]
 rw [hf]
 simp [newRow]
theorem sem_bs1 {t e : TypeId} {ti : TI} (ht : P.underlying t = some (.slice e)) (hti : tinf P e = some ti) (hsz : ti.sz = 1) {z0 : Value} (hz : ti.z = [z0]) {x : Operand} {d q : Nat} (hx : σ.eval gl x = .ref q 0) (hdq : q ≠ d)
  (hk : K ((σ.newOb d (.sem (rrow e [q]))).put (some d) (.own d))) : SemOp P gl ⟨some d, .buildSlice t 1 #[(0, x)], ty, pos, after, g⟩ σ K := by
 intro c β a w hP hgl hs hd
 subst hP; subst hgl
 have hv := hs.eval x
 rw [hx] at hv
 obtain ⟨b, hb, hvb⟩ := hv.inv_ref
 have hn : ∀ b', ownB (.slice (some ⟨w.heap.size, 0, none⟩) 1 1) = some b' → w.heap.size ≤ b' ∨ ∃ y, σ.mem d = some y ∧ ownB (β d) = some b' := fun b' hb' => by cases hb'; exact .inl (Nat.le_refl _)
 have hs2 := hs.new (o := d) (x := .sem (rrow e [q])) (bv := .slice (some ⟨w.heap.size, 0, none⟩) 1 1) (w' := w.alloc (.cells #[a.eval x] e)) (Keep.alloc _ _ _) hn
  ⟨[a.eval x], .inl ⟨rfl, .inr ⟨w.heap.size, 1, _, rfl, Nat.zero_le _, heap_alloc_new _ _, Nat.le_refl _, by simp only [maxLen]; omega, rfl, rfl⟩⟩, F2.cons (by
   show Rd _ _ _ (.v (upd β d _ q))
   rw [show upd β d (.slice (some ⟨w.heap.size, 0, none⟩) 1 1) q = β q by simp [upd, hdq], hb, hvb]
   exact .v rfl) F2.nil, by simp⟩
 refine Run.val (v := .slice (some ⟨w.heap.size, 0, none⟩) 1 1) (w' := w.alloc (.cells #[a.eval x] e)) (fun _ e => by cases e) ?_ ⟨_, _, hk, hs2.put hd (.own (by simp [upd]) rfl)⟩
 have := run_bs1 (P := c.P) (w := w) ht hti hsz hz (v := a.eval x) (by rw [hvb]; rfl)
 simp [execOp, this]
theorem sem_app {t e : TypeId} {ti : TI} (ht : tk P t = .slice e) (hti : tinf P e = some ti) (hsz : ti.sz = 1) (hzl : ti.z.length = 1) (hbs : 0 < ti.bs) {x y : Operand} {d o o2 : Nat} {ids ids2 : List Nat} (hx : σ.eval gl x = .own o) (hy : σ.eval gl y = .own o2) (hm : σ.mem o = some (.sem (rrow e ids))) (hm2 : σ.mem o2 = some (.sem (rrow e ids2)))
  (ho : o ∉ ids) (ho2 : o ∉ ids2) (hoo : o2 ≠ o) (hlen : (ids.length + ids2.length) * ti.bs ≤ 140737488355328)
  (hk : K ((σ.newOb o (.sem (rrow e (ids ++ ids2)))).put (some d) (.own o))) : SemOp P gl ⟨some d, .call ⟨.builtin .append, #[x, y], #[t, t]⟩, ty, pos, after, g⟩ σ K := by
 intro c β a w hP hgl hs hd
 subst hP; subst hgl
 have hs1 := hs.tell (x := .log e 1 (ids.map fun i => [.v (β i)])) hm fun st hst => logV_dep (st := fun _ => False) (fun _ _ => rfl) (show ObRel β (fun _ => False) w (β o) (.log e 1 (ids.map fun i => [.v (β i)])) from hs.obj o _ hm)
 have hm2' : (σ.setOb o (.log e 1 (ids.map fun i => [.v (β i)]))).mem o2 = some (.sem (rrow e ids2)) := by simp [S.setOb, upd, hoo, hm2]
 have hs2 := hs1.tell (x := .log e 1 (ids2.map fun i => [.v (β i)])) hm2' fun st hst => logV_dep (st := fun _ => False) (fun _ _ => rfl) (show ObRel β (fun _ => False) w (β o2) (.log e 1 (ids2.map fun i => [.v (β i)])) from hs.obj o2 _ hm2)
 generalize hσ2 : ((σ.setOb o (.log e 1 (ids.map fun i => [.v (β i)]))).setOb o2 (.log e 1 (ids2.map fun i => [.v (β i)]))) = σ2 at hs2
 have hr2 : σ2.regs = σ.regs := by subst hσ2; rfl
 have he : ∀ z, σ2.eval c.gl z = σ.eval c.gl z := fun z => by cases z <;> simp [S.eval, hr2]
 have hmo : σ2.mem o = some (.log e 1 (ids.map fun i => [.v (β i)])) := by subst hσ2; simp [S.setOb, upd, Ne.symm hoo]
 have hmo2 : σ2.mem o2 = some (.log e 1 (ids2.map fun i => [.v (β i)])) := by subst hσ2; simp [S.setOb, upd]
 have hmn : ∀ i, i ≠ o → i ≠ o2 → σ2.mem i = σ.mem i := fun i h1 h2 => by subst hσ2; simp [S.setOb, upd, h1, h2]
 obtain ⟨ob, hob, hrun⟩ := appK_soundB (o := ⟨some d, .call ⟨.builtin .append, #[x, y], #[t, t]⟩, ty, pos, after, g⟩) (K := fun σ' => σ' = (σ2.newOb o (.log e 1 ((ids ++ ids2).map fun i => [.v (β i)]))).put (some d) (.own o)) (t := t) (x := x) (y := y) hs2 rfl rfl rfl rfl hd (by
  simp only [appK, ht, he, hx, hy, rowsR, hmo, hmo2, hti]
  refine ⟨by rw [hzl, hsz], by omega, hbs, fun c hc => ?_, trivial, hsz.symm, by simpa using hlen, by rw [List.map_append]⟩
  obtain ⟨i, _, rfl⟩ := List.mem_map.1 hc
  rw [hsz]; rfl)
 obtain rfl : ob = o := hob o (by rw [he, hx])
 refine hrun.mono fun v w' ⟨σ', β', e', hβ, hs'⟩ => ?_
 subst e'
 have hkl : ∀ z : List (List D), Ob.kill ob (.log e 1 z) = .log e 1 z := fun z => rfl
 have hg1 : ((σ2.newOb ob (.log e 1 ((ids ++ ids2).map fun i => [.v (β i)]))).put (some d) (.own ob)).mem ob = some (.log e 1 ((ids ++ ids2).map fun i => [.v (β i)])) := by simp [S.put, S.newOb, upd]
 have hβ12 : ∀ i ∈ ids ++ ids2, β' i = β i := fun i hi => hβ i fun e => by
  subst e
  rcases List.mem_append.1 hi with h | h
  ·exact ho h
  ·exact ho2 h
 have ht1 := hs'.tell (x := .sem (rrow e (ids ++ ids2))) hg1 fun st hst => logV_dep hβ12 (hs'.obj ob _ hg1)
 have hg2 : (((σ2.newOb ob (.log e 1 ((ids ++ ids2).map fun i => [.v (β i)]))).put (some d) (.own ob)).setOb ob (.sem (rrow e (ids ++ ids2)))).mem o2 = some (.log e 1 (ids2.map fun i => [.v (β i)])) := by simp [S.put, S.newOb, S.setOb, upd, hoo, hmo2, hkl]
 have ht2 := ht1.tell (x := .sem (rrow e ids2)) hg2 fun st hst => logV_dep (fun i hi => hβ12 i (List.mem_append_right _ hi)) (ht1.obj o2 _ hg2)
 refine ⟨_, β', hk, ?_⟩
 have hfin : (((σ2.newOb ob (.log e 1 ((ids ++ ids2).map fun i => [.v (β i)]))).put (some d) (.own ob)).setOb ob (.sem (rrow e (ids ++ ids2)))).setOb o2 (.sem (rrow e ids2)) = (σ.newOb ob (.sem (rrow e (ids ++ ids2)))).put (some d) (.own ob) := by
  simp only [S.put, S.newOb, S.setOb, hr2]
  congr 1
  funext i
  simp only [upd]
  by_cases h1 : i = o2
  ·subst h1
   rw [if_pos rfl, if_neg hoo, hm2]
   simp only [Option.map_some, Ob.kill]
   rw [if_neg (by simp only [rrow, List.any_eq_true, beq_iff_eq, not_exists, not_and]; exact fun i hi e => ho2 (e ▸ hi))]
  ·rw [if_neg h1]
   by_cases h2 : i = ob
   ·subst h2; simp
   ·rw [if_neg h2, if_neg h2, if_neg h2, hmn i h2 h1]
 rw [← hfin]; exact ht2
def zC : Value → R
 | .slice none 0 0 => .cs []
 | v => .a (.d (cellD v))
def fillR (place : Nat → Option (Nat × Nat)) (cells : List R) : List (Nat × List R) → Option (List R)
 | [] => some cells
 | (i, ys) :: rest => match place i with
  | some (off, sz) => if ys.length = sz ∧ off + sz ≤ cells.length then fillR place (cells.take off ++ ys ++ cells.drop (off + sz)) rest else none
  | none => none
def partsR (σ : S) (gl : Nat → Option (List D)) : List (Nat × Operand) → Option (List (Nat × List R))
 | [] => some []
 | (i, x) :: rest => match cellsR (σ.eval gl x), partsR σ gl rest with
  | some ys, some ps => some ((i, ys) :: ps)
  | _, _ => none
theorem zC_rel {β : Nat → Value} {st : Nat → Prop} {w : World} {v : Value} (hv : v.oneCell' = true) : RelR β st w v (zC v) := by
 unfold zC
 split
 ·exact .cs .nil
 ·exact .a (x := .d _) (cellD_rd hv)
theorem fillR_rel {β : Nat → Value} {st : Nat → Prop} {w : World} {place : Nat → Option (Nat × Nat)} : ∀ (ps : List (Nat × List R)) {parts : List (Nat × Value)} {cells : Array Value} {rs rs' : List R},
  F2 (fun p q => p.1 = q.1 ∧ F2 (fun u r => u.oneCell' = true ∧ RelR β st w u r) p.2.cells.toList q.2) parts ps → F2 (fun u r => u.oneCell' = true ∧ RelR β st w u r) cells.toList rs → fillR place rs ps = some rs' →
  ∃ cells', Instr.fill place cells parts = some cells' ∧ F2 (fun u r => u.oneCell' = true ∧ RelR β st w u r) cells'.toList rs'
 | [], parts, cells, rs, rs', hp, hf, h => by
  cases h
  rw [hp.of_nil]
  exact ⟨cells, rfl, hf⟩
 | (i, ys) :: ps, parts, cells, rs, rs', hp, hf, h => by
  obtain ⟨⟨i', v⟩, parts', rfl, ⟨e1, hv⟩, hps⟩ := hp.of_cons
  simp only at e1 hv
  subst e1
  simp only [fillR] at h
  split at h
  ·rename_i off sz hpl
   split at h
   ·rename_i hc
    have hvl : v.cells.size = ys.length := by simpa using hv.1
    have hcl : cells.size = rs.length := by simpa using hf.1
    have hsp := fold_splice off v.cells.toList 0 cells (by simp; omega)
    have ff := ((hf.take off).append hv).append (hf.drop (off + ys.length))
    rw [← hc.1] at h
    obtain ⟨cells', h3, h4⟩ := fillR_rel ps hps (cells := v.cells.zipIdx.foldl (fun cs (x : Value × Nat) => cs.setIfInBounds (off + x.2) x.1) cells) (rs := rs.take off ++ ys ++ rs.drop (off + ys.length)) (by
     rw [← Array.foldl_toList, Array.toList_zipIdx, hsp]
     simp only [Nat.add_zero, Array.length_toList, hvl]
     exact ff) h
    refine ⟨cells', ?_, h4⟩
    simp only [Instr.fill, hpl]
    rw [if_neg (by simp [hvl, hc.1]; omega)]
    exact h3
   ·cases h
  ·cases h
theorem partsR_rel {c : Cx} {β : Nat → Value} {a : Act} {w : World} (hs : Sim c σ β a w) : ∀ (l : List (Nat × Operand)) {ps : List (Nat × List R)}, partsR σ c.gl l = some ps →
  F2 (fun p q => p.1 = q.1 ∧ F2 (fun u r => u.oneCell' = true ∧ RelR β (stF c σ β w) w u r) p.2.cells.toList q.2) (l.map fun x => (x.1, a.eval x.2)) ps
 | [], ps, h => by cases h; exact F2.nil
 | (i, x) :: l, ps, h => by
  simp only [partsR] at h
  split at h
  ·rename_i ys ps' h1 h2
   cases h
   exact F2.cons ⟨rfl, cellsR_rel (hs.eval x) h1⟩ (partsR_rel hs l h2)
  ·cases h
theorem sem_build {t : TypeId} {ti : TI} {offs : List (Nat × Nat × Bool)} (hti : tinf P t = some ti) (ht : tk P t = .struct offs) (h1 : ti.z.all Value.oneCell' = true) (hoffs : (offs.all fun x => x.2.1 != 0) = true) {l : List (Nat × Operand)} {ps : List (Nat × List R)} {rs : List R}
  (hp : partsR σ gl l = some ps) (hf : fillR (fun i => (offs[i]?).map fun x => (x.1, x.2.1)) (ti.z.map zC) ps = some rs) (hk : K (σ.put dst (.agr rs))) : SemOp P gl ⟨dst, .build t l.toArray, ty, pos, after, g⟩ σ K := by
 intro c β a w hP hgl hs hd
 subst hP; subst hgl
 obtain ⟨z, hz, hzz⟩ := run_zero (w := w) hti
 obtain ⟨fds, hu, rfl⟩ := tk_struct ht
 have hplaces : (fds.mapM fun f => do pure (f.offset, ← sizeOf f.type) : Sem (Array (Nat × Nat))).run c.P w = .ok (fds.toList.map fun f => (f.offset, ((c.P.info? f.type).map (·.size)).getD 0)).toArray w := by
  have hall : ∀ f ∈ fds.toList, (c.P.info? f.type).isSome = true := fun f hf => by
   have := List.all_eq_true.1 hoffs _ (List.mem_map.2 ⟨f, hf, rfl⟩)
   cases hi : c.P.info? f.type with
   | none => rw [hi] at this; simp at this
   | some i => rfl
  refine run_mapM_arr _ _ fun f hf => ?_
  obtain ⟨i, hi⟩ := Option.isSome_iff_exists.1 (hall f hf)
  simp [sizeOf, run_info hi, hi]
 have hz0 : F2 (fun u r => u.oneCell' = true ∧ RelR β (stF c σ β w) w u r) z.cells.toList (ti.z.map zC) := ⟨by simp [hzz], fun i u r hu hr => by
  simp only [List.getElem?_map, Option.map_eq_some_iff] at hr
  obtain ⟨v, hv, rfl⟩ := hr
  rw [hzz, hu] at hv; cases hv
  have := List.all_eq_true.1 h1 u (by rw [hzz]; exact List.mem_of_getElem? hu)
  exact ⟨this, zC_rel this⟩⟩
 obtain ⟨cells', hfl, hrel⟩ := fillR_rel (place := fun i => ((fds.toList.map fun f => (f.offset, ((c.P.info? f.type).map (·.size)).getD 0)).toArray)[i]?) ps (partsR_rel hs l hp) hz0 (by
  rw [← hf]
  congr 1
  funext i
  simp only [List.getElem?_toArray, List.getElem?_map, Option.map_map]
  congr 1)
 refine Run.val (v := .agg cells') (w' := w) (fun _ e => by cases e) ?_ ⟨_, β, hk, hs.put hd ?_⟩
 ·simp only [execOp, Instr.build, Sem.run_bind, hz, Result.andThen_ok, run_under hu, hplaces]
  have e1 : (l.toArray.map fun (x : Nat × Operand) => (x.1, a.eval x.2)).toList = l.map fun x => (x.1, a.eval x.2) := by simp
  rw [e1, hfl]
  rfl
 ·have : RelR β (stF c σ β w) w (.agg cells'.toList.toArray) (.agr rs) := .agr hrel.1 (fun v hv => by
   obtain ⟨i, hi⟩ := List.mem_iff_getElem?.1 hv
   have hi' := (List.getElem?_eq_some_iff.1 hi).1
   exact (hrel.2 i v _ hi (List.getElem?_eq_getElem (by rw [← hrel.1]; exact hi'))).1) fun j v r hv hr => (hrel.2 j v r hv hr).2
  simpa using this
end
end Go.VC
end
section
set_option maxRecDepth 100000
namespace Go.VC
open Go.RowKit Go.Proofs
def nm (a b o : Nat) : Nat := if o = a then b else o
def R.mv0 (a b : Nat) : R → R
 | .ref o f => .ref (nm a b o) f
 | .eref o i s j => .eref (nm a b o) i s j
 | .own o => .own (nm a b o)
 | .omp o => .omp (nm a b o)
 | .clo f caps => .clo f (caps.map fun c => (nm a b c.1, c.2))
 | .tp (_ :: _) => .any
 | .agr _ => .any
 | .sem os p => .sem (os.map (nm a b)) fun β v => p (fun o => β (nm a b o)) v
 | r => r
def R.mv (a b : Nat) (r : R) : R := if r.says b then .any else r.mv0 a b
def SemOb.mv (a b : Nat) (x : SemOb) : SemOb where
 os := x.os.map (nm a b)
 p := fun β st w bv => x.p (fun o => β (nm a b o)) st w bv
 lt := fun h => x.lt h
 mono := fun H h k => x.mono H h k
 dep := fun h => x.dep fun o ho => h _ (List.mem_map.2 ⟨o, ho, rfl⟩)
def Ob.mv (a b : Nat) : Ob → Ob
 | .box cs => .box (cs.map (R.mv a b))
 | .frame vs rs => .frame vs fun t => (rs t).mv a b
 | .sem x => if x.os.any (fun o => o == b) then .lost else .sem (x.mv a b)
 | x => x
def S.mv (a b : Nat) (σ : S) : S where
 regs := fun t => (σ.regs t).mv a b
 mem := fun o => if o = b then (σ.mem a).map (Ob.mv a b) else if o = a then none else (σ.mem o).map (Ob.mv a b)
section
variable {β : Nat → Value} {st : Nat → Prop} {w : World} {v : Value} {a b : Nat}
theorem RelR.mv {r : R} (h : RelR β st w v r) : RelR (upd β b (β a)) st w v (r.mv a b) := by
 have T : ∀ o, o ≠ b → upd β b (β a) (nm a b o) = β o := fun o ho => by
  unfold upd nm
  by_cases h : o = a
  ·simp [h]
  ·simp [h, ho]
 unfold R.mv
 split
 ·exact .any
 ·rename_i hk
  cases h with
  | any => exact .any
  | a h => exact .a h
  | cs h => exact .cs h
  | ref h => exact .ref ((T _ (by simpa [R.says, R.says0] using hk)).trans h)
  | eref h => exact .eref ((T _ (by simpa [R.says, R.says0] using hk)).trans h)
  | own h h1 => exact .own ((T _ (by simpa [R.says, R.says0] using hk)).trans h) h1
  | omp h h1 => exact .omp ((T _ (by simpa [R.says, R.says0] using hk)).trans h) h1
  | clo h =>
   simp only [R.says, R.says0, Bool.not_eq_true, List.any_eq_false, beq_iff_eq] at hk
   refine .clo ⟨by simp [h.1], fun i v c hv hc => ?_⟩
   simp only [List.getElem?_map, Option.map_eq_some_iff] at hc
   obtain ⟨c', hc', rfl⟩ := hc
   obtain ⟨bl, hb, e⟩ := h.2 i v c' hv hc'
   exact ⟨bl, (T _ (hk c' (List.mem_of_getElem? hc'))).trans hb, e⟩
  | @tp vs xs hl hd =>
   cases xs with
   | nil => exact .tp hl fun j v r _ hr => by simp at hr
   | cons x xs => exact .any
  | agr _ _ _ => exact .any
  | @sem os p v h hp =>
   simp only [R.says, R.says0, Bool.not_eq_true, List.any_eq_false, beq_iff_eq] at hk
   refine .sem (hp _ fun o ho => T o (hk o ho)) fun β2 h2 => hp _ fun o ho => ?_
   rw [h2 _ (List.mem_map.2 ⟨o, ho, rfl⟩), T o (hk o ho)]
theorem ObRel.mv {x : Ob} (h : ObRel β st w v x) : ObRel (upd β b (β a)) st w v (x.mv a b) := by
 have T : ∀ o, o ≠ b → upd β b (β a) (nm a b o) = β o := fun o ho => by
  unfold upd nm
  by_cases h : o = a
  ·simp [h]
  ·simp [h, ho]
 cases x with
 | box cs =>
  obtain ⟨bl, arr, e, rfl, hb, hr⟩ := h
  refine ⟨bl, arr, e, rfl, hb, by simp [hr.1], fun i v r hv hr' => ?_⟩
  simp only [List.getElem?_map, Option.map_eq_some_iff] at hr'
  obtain ⟨r0, h0, rfl⟩ := hr'
  exact ⟨(hr.2 i v r0 hv h0).1, (hr.2 i v r0 hv h0).2.mv⟩
 | log e sz xs => exact h
 | mpo kv => exact h
 | iter kv seen => exact h
 | frame vs rs => exact ⟨h.1, fun t => (h.2 t).mv⟩
 | sem x =>
  simp only [Ob.mv]
  split
  ·exact fun b hb => x.lt h b hb
  ·rename_i hk
   simp only [Bool.not_eq_true, List.any_eq_false, beq_iff_eq] at hk
   exact x.dep (β := β) (fun o ho => T o (hk o ho)) h
 | lost => exact h
end
theorem Sim.mv {c : Cx} {σ : S} {β : Nat → Value} {act : Act} {w : World} {a b : Nat} (ha : a < 1000000000) (hab : a ≠ b) (hs : Sim c σ β act w) : Sim c (σ.mv a b) (upd β b (β a)) act w := by
 have at_ : ∀ o x, (σ.mv a b).mem o = some x → ∃ o' y, σ.mem o' = some y ∧ x = y.mv a b ∧ o' = (if o = b then a else o) ∧ o ≠ a ∧ upd β b (β a) o = β o' := fun o x hx => by
  simp only [S.mv] at hx
  split at hx
  ·rename_i e
   obtain ⟨y, hy, rfl⟩ := Option.map_eq_some_iff.1 hx
   exact ⟨a, y, hy, rfl, by simp [e], by rw [e]; exact Ne.symm hab, by simp [upd, e]⟩
  ·rename_i e
   split at hx
   ·cases hx
   ·rename_i e2
    obtain ⟨y, hy, rfl⟩ := Option.map_eq_some_iff.1 hx
    exact ⟨o, y, hy, rfl, by simp [e], e2, by simp [upd, e]⟩
 have hst : ∀ bl, stF c σ β w bl → stF c (σ.mv a b) (upd β b (β a)) w bl ∧ w.heap[bl]? = w.heap[bl]? := fun bl hbl => ⟨⟨hbl.1, hbl.2.1, fun o x hx => by
  obtain ⟨o', y, hy, _, _, _, e⟩ := at_ o x hx
  rw [e]; exact hbl.2.2.1 o' y hy, hbl.2.2.2⟩, rfl⟩
 refine ⟨hs.keep, hs.size, hs.dfs (fun _ _ => rfl) (fun o x hx => let ⟨o', y, hy, _, _, _, e⟩ := at_ o x hx; .inl ⟨o', y, hy, e⟩), c.hE hst hs.ext, fun o x hx => ?_, fun o x bl hx hb => ?_, fun o1 o2 x1 x2 bl h1 h2 h3 h4 => ?_, fun t => ((hs.reg t).mono hst).mv, hs.env.mono hst⟩
 ·obtain ⟨o', y, hy, rfl, _, _, e⟩ := at_ o x hx
  rw [e]
  exact ((hs.obj o' y hy).mono hst fun _ _ => rfl).mv
 ·obtain ⟨o', y, hy, rfl, e1, _, e⟩ := at_ o x hx
  rw [e] at hb
  refine (hs.blk o' y bl hy hb).imp id fun hX => ⟨hX.1, ?_⟩
  split at e1
  ·have := hX.2; omega
  ·subst e1; exact hX.2
 ·obtain ⟨o1', y1, hy1, _, e1, n1, f1⟩ := at_ o1 x1 h1
  obtain ⟨o2', y2, hy2, _, e2, n2, f2⟩ := at_ o2 x2 h2
  rw [f1] at h3; rw [f2] at h4
  have := hs.dis o1' o2' y1 y2 bl hy1 hy2 h3 h4
  rw [e1, e2] at this
  split at this <;> split at this <;> simp_all
theorem g_mv {σ : S} {a b : Nat} (ha : a < 1000000000) (hab : a ≠ b) : Ghost σ (σ.mv a b) := fun c β act w hs => ⟨upd β b (β a), hs.mv ha hab⟩
theorem rrow_mv {a b : Nat} {e : TypeId} {ids : List Nat} : (rrow e ids).mv a b = rrow e (ids.map (nm a b)) := by
 unfold SemOb.mv rrow
 congr 1
 funext β st w bv
 simp only [ObRel, List.map_map]
 rfl
theorem rmp_mv {a b : Nat} {kv : List (Int × Nat)} : (rmp kv).mv a b = rmp (kv.map fun p => (p.1, nm a b p.2)) := by
 unfold SemOb.mv rmp
 congr 1
 ·simp [List.map_map]
 ·funext β st w bv
  simp only [ObRel, List.map_map]
  rfl
section
variable {σ : S} {a b o t f : Nat}
theorem mv_r : (σ.mv a b).regs t = (σ.regs t).mv a b := rfl
theorem mv_mb : (σ.mv a b).mem b = (σ.mem a).map (Ob.mv a b) := by simp [S.mv]
theorem mv_mo (h1 : (o == b) = false) (h2 : (o == a) = false) : (σ.mv a b).mem o = (σ.mem o).map (Ob.mv a b) := by
 simp only [S.mv]; rw [if_neg (by simpa using h1), if_neg (by simpa using h2)]
theorem mv_any : R.mv a b .any = .any := rfl
theorem mv_a {x : A} : R.mv a b (.a x) = .a x := rfl
theorem mv_cs {xs : List (List D)} : R.mv a b (.cs xs) = .cs xs := rfl
theorem mv_tp : R.mv a b (.tp []) = .tp [] := rfl
theorem mv_own (h : (a == b) = false) : R.mv a b (.own a) = .own b := by simp [R.mv, R.says, R.says0, R.mv0, nm, h]
theorem mv_ref (h : (a == b) = false) : R.mv a b (.ref a f) = .ref b f := by simp [R.mv, R.says, R.says0, R.mv0, nm, h]
theorem mv_ownn (h1 : (o == b) = false) (h2 : (o == a) = false) : R.mv a b (.own o) = .own o := by
 have : ¬ o = a := by simpa using h2
 simp [R.mv, R.says, R.says0, R.mv0, nm, h1, this]
theorem mv_ompn (h1 : (o == b) = false) (h2 : (o == a) = false) : R.mv a b (.omp o) = .omp o := by
 have : ¬ o = a := by simpa using h2
 simp [R.mv, R.says, R.says0, R.mv0, nm, h1, this]
theorem mv_refn (h1 : (o == b) = false) (h2 : (o == a) = false) : R.mv a b (.ref o f) = .ref o f := by
 have : ¬ o = a := by simpa using h2
 simp [R.mv, R.says, R.says0, R.mv0, nm, h1, this]
theorem mo_log {e : TypeId} {z : Nat} {xs : List (List D)} : Ob.mv a b (.log e z xs) = .log e z xs := rfl
theorem mo_mpo {kv : List (Int × D)} : Ob.mv a b (.mpo kv) = .mpo kv := rfl
theorem mo_box {cs : List R} : Ob.mv a b (.box cs) = .box (cs.map (R.mv a b)) := rfl
theorem mv0_up {r : R} (h : a < 1000000) : r.up.mv0 a b = r.up := by
 have hn : ∀ o, nm a b (upId o) = upId o := fun o => by
  unfold nm; rw [if_neg (by have := upId_le o; omega)]
 cases r with
 | any => rfl
 | a x => rfl
 | cs x => rfl
 | ref o f => simp only [R.up, R.mv0, hn]
 | eref o i s j => simp only [R.up, R.mv0, hn]
 | own o => simp only [R.up, R.mv0, hn]
 | omp o => simp only [R.up, R.mv0, hn]
 | clo g caps => simp only [R.up, R.mv0, List.map_map, Function.comp_def, hn]
 | tp xs => cases xs <;> rfl
 | agr xs => rfl
 | sem os p => simp only [R.up, R.mv0, List.map_map, Function.comp_def, hn]
theorem mo_frame {vs : List Value} {reg : Nat → R} {q : Nat} (h : decide (a < 1000000) = true) : Ob.mv a (upId q) (.frame vs (upF reg)) = .frame vs (upF (killR q reg)) := by
 simp only [Ob.mv]
 congr 1
 funext t
 show R.mv a (upId q) (reg t).up = ((reg t).kill q).up
 rw [← kill_up_hi]
 unfold R.mv R.kill
 split
 ·rfl
 ·exact mv0_up (of_decide_eq_true h)
end
def PM :=
 And.intro (@mv_r) <| And.intro (@mv_mb) <| And.intro (@mv_mo) <| And.intro (@mv_any) <| And.intro (@mv_a) <| And.intro (@mv_cs) <| And.intro (@mv_tp) <| And.intro (@mv_own) <| And.intro (@mv_ref) <| And.intro (@mv_ownn) <| And.intro (@mv_ompn) <| And.intro (@mv_refn) <| And.intro (@mo_log) <| And.intro (@mo_mpo) <| And.intro (@mo_box) <| @mo_frame
attribute [go_sem] PM
theorem awp_loopG {P : Program} {gl : Nat → Option (List D)} {α : Type} (Inv : α → S → Prop) (m : α → Nat) {c : Code} {Q : Ex → S → Prop} {σ : S} (a0 : α) (h0 : ∃ σ0, Ghost σ σ0 ∧ Inv a0 σ0)
  (h : ∀ a σ, Inv a σ → awp P gl c (Ex.then (fun σ' => ∃ σ'' a', Ghost σ' σ'' ∧ Inv a' σ'' ∧ m a' < m a) Q) σ) : awp P gl (.loop c) Q σ := by
 intro I hI hG
 have key : ∀ n σ, (∃ σ'' a, Ghost σ σ'' ∧ Inv a σ'' ∧ m a = n) → I σ := by
  intro n
  induction n using Nat.strongRecOn with
  | _ n ih =>
   rintro σ ⟨σ'', a, hg, hi, hn⟩
   refine hG σ σ'' hg (hI σ'' (awp_mono c (fun e σ' he => ?_) (h a σ'' hi)))
   cases e with
   | normal =>
    obtain ⟨σ3, a', hg', hi', hm⟩ := he
    exact ih (m a') (by omega) σ' ⟨σ3, a', hg', hi', rfl⟩
   | exit id => exact he
   | ret => exact he
   | panic t r => exact he
 obtain ⟨σ0, hg, hi⟩ := h0
 exact key _ σ ⟨σ0, a0, hg, hi, rfl⟩
end Go.VC
end
section
set_option maxRecDepth 100000
namespace Go.VC
open Go.RowKit
theorem put_inj {a a' : Act} {dst : Option Tmp} {v v' : Value} (hsz : a.tmps.size = a'.tmps.size) (h : a'.put dst v = a'.put dst v') : a.put dst v = a.put dst v' := by
 cases dst with
 | none => rfl
 | some d =>
  by_cases hd : d < a'.tmps.size
  ·have h1 := congrArg (fun z : Act => z.tmps[d]?) h
   simp only [Act.put, Array.getElem?_setIfInBounds, if_true, hd] at h1
   cases h1; rfl
  ·have hd' : ¬ d < a.tmps.size := by rw [hsz]; exact hd
   simp only [Act.put]
   rw [Array.setIfInBounds_eq_of_size_le (Nat.le_of_not_lt hd'), Array.setIfInBounds_eq_of_size_le (Nat.le_of_not_lt hd')]
theorem Run.congr {P : Program} {o : Oper} {a a' : Act} {w : World} {Z : Value → World → Prop} (hdf : ∀ c, o.op ≠ .defer c) (hs : ∀ cs b, o.op ≠ .select cs b) (hx : ∀ x ∈ o.op.operands, a.eval x = a'.eval x) (hsz : a.tmps.size = a'.tmps.size)
  (h : Run P o a' w Z) : Run P o a w Z := by
 intro ρ n next Q hn
 have h1 := h ρ n (fun act w' => ∃ v, act = a'.put o.dst v ∧ next (a.put o.dst v) w') (fun e _ w' => Q e a w') fun v w' hz => ⟨v, rfl, hn v w' hz⟩
 refine ⟨fun _ _ => trivial, ?_⟩
 have h2 := h1.2
 rw [Oper.semAt_eq _ _ _ hdf] at h2 ⊢
 rw [execOp_congr o hs hx]
 have nx : ∀ v w', (∃ v', a'.put o.dst v = a'.put o.dst v' ∧ next (a.put o.dst v') w') → next (a.put o.dst v) w' := fun v w' ⟨v', e, k⟩ => by rw [put_inj hsz e]; exact k
 generalize (execOp a'.eval o).run P w = res at h2
 cases res with
 | ok x w' =>
  cases x <;> simp only [Oper.uponIn] at h2 ⊢
  case value v => exact nx _ _ h2
  case skip => exact nx _ _ h2
  case defer d =>
   obtain ⟨v, e, _⟩ := h2
   exfalso
   have := congrArg (fun z : Act => z.defers.length) e
   cases hd : o.dst <;> rw [hd] at this <;> simp [Act.put] at this
  case enter f args => exact ⟨h2.1, CallsIn.mono h2.2 fun e w'' he => by cases e <;> first | exact nx _ _ he | exact he | (obtain ⟨_, w3, h3⟩ := he; exact ⟨a, w3, h3⟩)⟩
  case row r args => exact ⟨h2.1, RowsIn.mono h2.2 fun v w'' he => nx _ _ he⟩
  case round l f tmps asg body => exact ⟨h2.1, RoundIn.mono h2.2 fun e w'' he => by cases e <;> first | exact nx _ _ he | exact he | (obtain ⟨_, w3, h3⟩ := he; exact ⟨a, w3, h3⟩)⟩
 | halt x w' => cases x <;> simp only [Oper.uponIn] at h2 ⊢ <;> exact h2
section
variable {c : Cx} {σ : S} {β : Nat → Value} {a : Act} {w : World} {o : Oper} {K : R → Prop}
def lagO (o : Oper) : Bool := o.guard.isNone && match o.op with
 | .move (.tmp _) | .load _ (.tmp _) | .fieldAddr _ (.tmp _) _ | .nilCheck (.tmp _) | .indexAddr _ (.tmp _) (.tmp _) | .slice _ (.tmp _) none (some (.tmp _)) none => true
 | .binOp _ _ (.tmp _) (.tmp _) _ => true
 | .call k => match k.callee with
  | .builtin .len => true
  | .builtin .min => true
  | _ => false
 | _ => false
theorem lag_bin {op : BinOp} {t ty : TypeId} {x y : Operand} (h : Sim c σ β a w) (ho : o.op = .binOp op t x y ty) (hq : opQ c.P c.gl o σ K) : ∃ v r, (execOp a.eval o).run c.P w = .ok (.value v) w ∧ K r ∧ RelR β (stF c σ β w) w v r := by
 have hx := h.eval x
 have hy := h.eval y
 simp only [opQ, ho] at hq
 split at hq
 ·rename_i p q hp hq'
  rw [hp] at hx; rw [hq'] at hy
  split at hq
  ·rename_i ht
   exact ⟨.bool (p == q), _, by simp only [execOp, ho, hx.inv_v, hy.inv_v, Sem.run_bind, eqGuard, binOp, run_equal_bool (tk_bool ht), Result.andThen_ok, Sem.run_pure]; rfl, hq, .a (.v rfl)⟩
  ·rename_i ht
   exact ⟨.bool (p != q), _, by simp only [execOp, ho, hx.inv_v, hy.inv_v, Sem.run_bind, eqGuard, binOp, run_equal_bool (tk_bool ht), Result.andThen_ok, Sem.run_pure]; rfl, hq, .a (.v rfl)⟩
  ·exact hq.elim
 ·rename_i u v hu hv
  rw [hu] at hx; rw [hv] at hy
  split at hq
  ·rename_i p r hb
   obtain ⟨hp, hq⟩ := hq
   have := run_binOp (P := c.P) (w := w) (t := t) (x := x) (y := y) hb hp
   have h1 : r.oneCell' = true := by
    unfold binR at hb
    split at hb
    ·cases op <;> cases hb <;> rfl
    ·cases op <;> first | (cases hb; done) | (cases hb; rfl)
    ·cases hb
   exact ⟨_, _, by simp only [execOp, ho, hx.inv_v, hy.inv_v, Sem.run_bind] at this ⊢; rw [this]; rfl, hq, .a (.v h1)⟩
  ·exact hq.elim
 ·rename_i xs ys hu hv
  rw [hu] at hx; rw [hv] at hy
  split at hq
  ·rename_i n la lb hn hla hlb
   obtain ⟨h1, h2, hq⟩ := hq
   obtain ⟨cs, ec, hc⟩ := ag_ints hx.inv_a0 hla
   obtain ⟨ds, ed, hd2⟩ := ag_ints hy.inv_a0 hlb
   obtain ⟨_, _, _, hg, _, _⟩ := intsT_eq hn
   have he := eqS_run (w := w) hn h1 h2 hc hd2
   split at hq
   ·exact ⟨.bool (la == lb), _, by simp only [execOp, ho, ec, ed, Sem.run_bind, Go.run_eqGuard_agg w _ t x y cs ds hg, Result.andThen_ok, binOp, he, Sem.run_pure], hq, .a (.v rfl)⟩
   ·exact ⟨.bool (!(la == lb)), _, by simp only [execOp, ho, ec, ed, Sem.run_bind, Go.run_eqGuard_agg w _ t x y cs ds hg, Result.andThen_ok, binOp, he, Sem.run_pure], hq, .a (.v rfl)⟩
   ·exact hq.elim
  ·exact hq.elim
 ·exact hq.elim
theorem lag_eval (h : Sim c σ β a w) (hl : lagO o = true) (hq : opQ c.P c.gl o σ K) : ∃ v r, (execOp a.eval o).run c.P w = .ok (.value v) w ∧ K r ∧ RelR β (stF c σ β w) w v r := by
 unfold lagO at hl
 unfold opQ at hq
 split at hq
 case h_1 x ho => exact ⟨_, _, by simp [execOp, ho], hq, h.eval x⟩
 case h_4 t p ho =>
  split at hq
  ·rename_i r hr
   obtain ⟨v, hv, hrel⟩ := load_run h hr
   exact ⟨v, r, by simp [execOp, ho, hv], hq, hrel⟩
  ·exact hq.elim
 case h_5 t p f ho =>
  split at hq
  ·rename_i offs ht
   split at hq
   ·rename_i fo fs b hf
    obtain ⟨hz, hq⟩ := hq
    have hp := h.eval p
    split at hq
    ·rename_i ob off he
     rw [he] at hp
     obtain ⟨bl, hb, hv⟩ := hp.inv_ref
     exact ⟨_, _, by simp [execOp, ho, hv, part_off ht hf hz], hq, .ref hb⟩
    ·rename_i cs he
     rw [he] at hp
     obtain ⟨bl, off, arr, e, fr, hv, _⟩ := hp.inv_d.inv_pt
     have := hp.inv_d
     rw [hv] at this
     exact ⟨_, _, by simp [execOp, ho, hv, part_off ht hf hz], hq, .a (this.pt_drop fo)⟩
    ·rename_i ob i sz j he
     rw [he] at hp
     obtain ⟨bl, n, cp, hb, hv⟩ := hp.inv_eref
     exact ⟨.pointer (some ⟨bl, i * sz + j + fo, none⟩), _, by simp [execOp, ho, hv, part_off ht hf hz], hq, by rw [Nat.add_assoc]; exact .eref hb⟩
    ·exact hq.elim
   ·exact hq.elim
  ·exact hq.elim
 case h_6 t x i ho =>
  split at hq
  ·rename_i k n hi
   have hiv := h.eval i
   rw [hi] at hiv
   have hn := hiv.inv_v
   split at hq
   ·rename_i e ht
    split at hq
    ·rename_i ti hti
     have hx := h.eval x
     have row : ∀ xs, Rd (stF c σ β w) w (a.eval x) (.sl xs) → idxK n xs ti.sz (fun c => K (.a (.d (.pt c)))) → ∃ v r, (execOp a.eval o).run c.P w = .ok (.value v) w ∧ K r ∧ RelR β (stF c σ β w) w v r := by
      intro xs hr hk
      obtain ⟨h0, hk⟩ := hk
      split at hk
      ·rename_i cc hcc
       obtain ⟨hsz, hk⟩ := hk
       have hlt := (List.getElem?_eq_some_iff.1 hcc).1
       rcases hr.inv_sl with ⟨_, rfl⟩ | ⟨b, off, len, cap, sz, arr, e', fr, hv, hlen, hc1, hc2, hst, hb, hall, hcell⟩
       ·simp at hcc
       ·have hs : sz = ti.sz := (hall cc (List.mem_of_getElem? hcc)).symm.trans hsz
        subst hs
        refine ⟨.pointer (some ⟨b, off + n.toNat * ti.sz, none⟩), _, by simp [execOp, ho, hv, hn, idx_slice ht hti h0 (show n < (len : Int) by omega)], hk, .a (Rd.mk_pt hst hb fun j d hj => ?_)⟩
        exact hcell _ cc j d hcc hj
      ·exact hk.elim
     split at hq
     ·rename_i xs he
      rw [he] at hx
      exact row xs hx.inv_d hq
     ·rename_i xs he
      rw [he] at hx
      obtain ⟨p, m, hv, hr⟩ := hx.inv_cs
      exact row xs (hv ▸ hr) hq
     ·rename_i ob he
      rw [he] at hx
      split at hq
      ·rename_i e' sz xs hm
       obtain ⟨h0, hk⟩ := hq
       split at hk
       ·rename_i cc hcc
        obtain ⟨hsz, hk⟩ := hk
        have hlt := (List.getElem?_eq_some_iff.1 hcc).1
        obtain ⟨cells, hrow, hf, hall⟩ := h.obj ob _ hm
        rcases hrow.cells with ⟨_, hz, _⟩ | ⟨g, cap, cur, hv, _⟩
        ·omega
        ·have hv' : a.eval x = .slice (some ⟨g, 0, none⟩) xs.length cap := hx.inv_own.trans hv
         refine ⟨.pointer (some ⟨g, 0 + n.toNat * ti.sz, none⟩), _, by simp [execOp, ho, hv', hn, idx_slice ht hti h0 (show n < (xs.length : Int) by omega)], hk, ?_⟩
         have := RelR.eref (β := β) (st := stF c σ β w) (w := w) (o := ob) (i := n.toNat) (sz := ti.sz) (j := 0) hv
         simpa using this
       ·exact hk.elim
      ·exact hq.elim
     ·exact hq.elim
    ·exact hq.elim
   ·rename_i len e ht
    split at hq
    ·rename_i ti hti
     obtain ⟨h0, h1, hq⟩ := hq
     have hx := h.eval x
     split at hq
     ·rename_i ob off he
      rw [he] at hx
      obtain ⟨bl, hb, hv⟩ := hx.inv_ref
      exact ⟨_, _, by simp [execOp, ho, hv, hn, idx_arr ht hti h0 h1], hq, .ref hb⟩
     ·rename_i cs he
      rw [he] at hx
      obtain ⟨bl, off, arr, e, fr, hv, _⟩ := hx.inv_d.inv_pt
      have := hx.inv_d
      rw [hv] at this
      exact ⟨_, _, by simp [execOp, ho, hv, hn, idx_arr ht hti h0 h1], hq, .a (this.pt_drop _)⟩
     ·exact hq.elim
    ·exact hq.elim
   ·exact hq.elim
  ·exact hq.elim
 case h_7 x ho =>
  have hx := h.eval x
  split at hq
  ·rename_i ob off he
   rw [he] at hx
   obtain ⟨bl, hb, hv⟩ := hx.inv_ref
   exact ⟨_, _, by simp [execOp, ho, hv], hq, .ref hb⟩
  ·rename_i cs he
   rw [he] at hx
   obtain ⟨bl, off, arr, e, fr, hv, _⟩ := hx.inv_d.inv_pt
   have := hx.inv_d
   rw [hv] at this
   exact ⟨_, _, by simp [execOp, ho, hv], hq, .a this⟩
  ·rename_i ob i sz j he
   rw [he] at hx
   obtain ⟨bl, n, cp, hb, hv⟩ := hx.inv_eref
   exact ⟨_, _, by simp [execOp, ho, hv], hq, .eref hb⟩
  ·exact hq.elim
 case h_8 op t x y ty ho => exact lag_bin h ho (by unfold opQ; rw [ho]; exact hq)
 case h_14 t x l hi m ho =>
  have hx := h.eval x
  split at hq
  ·rename_i e ht
   split at hq
   ·rename_i ti hti
    split at hq
    ·rename_i xs he
     rw [he] at hx
     obtain ⟨u, r, hk, hrun, hrel⟩ := slice_run h ht hti hx.inv_d hq.2 hq.1
     exact ⟨_, _, by simp [execOp, ho, hrun], hk, hrel β⟩
    ·rename_i xs he
     rw [he] at hx
     obtain ⟨p, n, hv, hr⟩ := hx.inv_cs
     obtain ⟨u, r, hk, hrun, hrel⟩ := slice_run h ht hti (hv ▸ hr) hq.2 hq.1
     exact ⟨_, _, by simp [execOp, ho, hrun], hk, hrel β⟩
    ·exact hq.elim
   ·exact hq.elim
  ·exact hq.elim
 case h_15 k ho =>
  split at hq
  ·rename_i b hb
   split at hq
   ·rename_i x t hargs htys
    have ha : k.args = #[x] := by rw [← Array.toArray_toList (xs := k.args), hargs]
    have hty : k.argTypes = #[t] := by rw [← Array.toArray_toList (xs := k.argTypes), htys]
    split at hq
    ·rename_i b' n hn
     have hrun : ((b' = false ∧ ∃ e, tk c.P t = .slice e) ∨ (b' = true ∧ tk c.P t = .str)) → (execOp a.eval o).run c.P w = .ok (.value (.int .i64 n)) w := by
      intro ht
      have := len_run h (ty := o.type) hn ht
      simp [execOp, ho, resolve, hb, ha, hty, invoke, builtin, this]
     split at hq
     ·rename_i e ht
      exact ⟨_, _, hrun (.inl ⟨rfl, e, ht⟩), hq, .a (.v rfl)⟩
     ·rename_i ht
      exact ⟨_, _, hrun (.inr ⟨rfl, ht⟩), hq, .a (.v rfl)⟩
     ·exact hq.elim
    ·exact hq.elim
   ·rename_i x y hargs
    have ha : k.args = #[x, y] := by rw [← Array.toArray_toList (xs := k.args), hargs]
    have hx := h.eval x
    have hy := h.eval y
    split at hq
    ·rename_i kk m kk' m' hp hq'
     rw [hp] at hx; rw [hq'] at hy
     refine ⟨.int kk (if m' < m then m' else m), _, ?_, hq, .a (.v rfl)⟩
     simp [execOp, ho, resolve, hb, ha, invoke, builtin, Builtin.min_, hx.inv_v, hy.inv_v, Builtin.min2]
    ·exact hq.elim
   ·simp [ho, hb] at hl
   ·exact hq.elim
  ·rename_i f hf
   simp [ho, hf] at hl
  ·exact hq.elim
 all_goals first | exact hq.elim | (rename_i ho; simp [ho] at hl)
end
def depT (ops : Array Oper) (i : Nat) : Array Bool := depA ops (Array.replicate ops.size false) i
def edgeTo (o : Oper) (j : Nat) : Bool := o.after.any fun e => Region.binds .any e && e.on == j
def lagB (ops : Array Oper) : Bool := (List.range ops.size).all fun i => match ops[i]? with
 | none => false
 | some o => o.guard.isNone && (o.after.all fun e => !Region.binds .any e || decide (e.on < i)) &&
   ((List.range ops.size).all fun j => match ops[j]? with
    | none => false
    | some oj => match oj.dst with
     | none => true
     | some d => (i == j || o.dst != some d) && (!lagO oj || !(o.looksAt ops).contains d || edgeTo o j)) &&
   (!lagO o || o.dst.isSome) && (lagO o || (List.range ops.size).all fun j => decide (j ≤ i) || (depT ops i).getD j false) &&
   ((List.range (depT ops i).size).all fun j => !(depT ops i).getD j false || match ops[j]? with
    | none => false
    | some oj => oj.after.any fun e => Region.binds .any e && (e.on == i || (depT ops i).getD e.on false)) &&
   (match o.op with
    | .defer _ | .select _ _ => false
    | _ => true)
structure LagAt (ops : Array Oper) (i : Nat) (o : Oper) : Prop where
 guard : o.guard = none
 low : ∀ e ∈ o.after, Region.binds .any e = true → e.on < i
 dst : ∀ j oj d, ops[j]? = some oj → oj.dst = some d → i ≠ j → o.dst ≠ some d
 look : ∀ j oj d, ops[j]? = some oj → lagO oj = true → oj.dst = some d → d ∈ o.looksAt ops → ∃ e ∈ o.after, Region.binds .any e = true ∧ e.on = j
 some_ : lagO o = true → ∃ d, o.dst = some d
 all_ : lagO o = false → ∀ j, i < j → j < ops.size → (depT ops i).getD j false = true
 dep : ∀ j, (depT ops i).getD j false = true → ∃ oj, ops[j]? = some oj ∧ ∃ e ∈ oj.after, Region.binds .any e = true ∧ (e.on = i ∨ (depT ops i).getD e.on false = true)
 dfr : ∀ c, o.op ≠ .defer c
 sel : ∀ cs b, o.op ≠ .select cs b
theorem lag_at {ops : Array Oper} (h : lagB ops = true) {i : Nat} {o : Oper} (hi : ops[i]? = some o) : LagAt ops i o := by
 have hlt : i < ops.size := by
  rcases Nat.lt_or_ge i ops.size with h | h
  ·exact h
  ·rw [Array.getElem?_eq_none h] at hi; cases hi
 have h1 := List.all_eq_true.1 h i (List.mem_range.2 hlt)
 simp only [hi, Bool.and_eq_true] at h1
 obtain ⟨⟨⟨⟨⟨⟨g, lo⟩, ds⟩, sm⟩, al⟩, dp⟩, df⟩ := h1
 have dsj : ∀ j oj d, ops[j]? = some oj → oj.dst = some d → (i == j || o.dst != some d) = true ∧ (!lagO oj || !(o.looksAt ops).contains d || edgeTo o j) = true := fun j oj d hj hd => by
  have hjl : j < ops.size := by
   rcases Nat.lt_or_ge j ops.size with h | h
   ·exact h
   ·rw [Array.getElem?_eq_none h] at hj; cases hj
  have h2 := List.all_eq_true.1 ds j (List.mem_range.2 hjl)
  simp only [hj, hd, Bool.and_eq_true] at h2
  exact h2
 refine ⟨by simpa using g, fun e he hb => ?_, fun j oj d hj hd hij => ?_, fun j oj d hj hlo hd hl => ?_, fun hl => ?_, fun hl j hij hjs => ?_, fun j hj => ?_, fun c e => ?_, fun cs b e => ?_⟩
 ·have := Array.all_eq_true'.1 lo e he
  simpa [hb] using this
 ·have := (dsj j oj d hj hd).1
  simpa [hij] using this
 ·have := (dsj j oj d hj hd).2
  have hc : (o.looksAt ops).contains d = true := by simpa using hl
  rw [hc, hlo] at this
  simp only [Bool.not_true, Bool.false_or, edgeTo] at this
  obtain ⟨e, he, hb⟩ := Array.any_eq_true'.1 this
  simp only [Bool.and_eq_true, beq_iff_eq] at hb
  exact ⟨e, he, hb.1, hb.2⟩
 ·rw [hl] at sm
  simp only [Bool.not_true, Bool.false_or, Option.isSome_iff_exists] at sm
  exact sm
 ·rw [hl, Bool.false_or] at al
  have := List.all_eq_true.1 al j (List.mem_range.2 hjs)
  simpa [show ¬ j ≤ i by omega] using this
 ·have hjl : j < (depT ops i).size := by
   rcases Nat.lt_or_ge j (depT ops i).size with h | h
   ·exact h
   ·simp [Array.getElem?_eq_none h] at hj
  have h2 := List.all_eq_true.1 dp j (List.mem_range.2 hjl)
  rw [hj, Bool.not_true, Bool.false_or] at h2
  split at h2
  ·cases h2
  ·rename_i oj hoj
   obtain ⟨e, he, hb⟩ := Array.any_eq_true'.1 h2
   simp only [Bool.and_eq_true, Bool.or_eq_true, beq_iff_eq] at hb
   exact ⟨oj, hoj, e, he, hb.1, hb.2⟩
 ·rw [e] at df; cases df
 ·rw [e] at df; cases df
def fidx (ops : Array Oper) (k : Nat) : List Nat := (List.range k).filter fun i => match ops[i]? with
 | some o => lagO o && !(depT ops i).getD k false
 | none => false
def fltK (P : Program) (gl : Nat → Option (List D)) (ops : Array Oper) : List Nat → S → Prop
 | [], _ => True
 | i :: is, σ => (match ops[i]? with
  | some o => match o.dst with
   | some d => opQ P gl o σ fun r => r = σ.regs d
   | none => True
  | none => True) ∧ fltK P gl ops is σ
theorem fltK_at {P : Program} {gl : Nat → Option (List D)} {ops : Array Oper} {σ : S} : ∀ {is : List Nat}, fltK P gl ops is σ → ∀ i ∈ is, ∀ o d, ops[i]? = some o → o.dst = some d → opQ P gl o σ fun r => r = σ.regs d
 | j :: is, h, i, hi, o, d, ho, hd => by
  rcases List.mem_cons.1 hi with rfl | hi
  ·have := h.1; rw [ho] at this; simp only [hd] at this; exact this
  ·exact fltK_at h.2 i hi o d ho hd
def opsL (P : Program) (gl : Nat → Option (List D)) (ops : Array Oper) : List Oper → Nat → S → (S → Prop) → Prop
 | [], _, σ, K => K σ
 | o :: rest, k, σ, K => match lagO o with
  | true => opQ P gl o σ fun r => opsL P gl ops rest (k + 1) (σ.put o.dst r) K
  | false => opA P gl o σ fun σ' => fltK P gl ops (fidx ops k) σ' ∧ opsL P gl ops rest (k + 1) σ' K
def cnt (l : List Bool) : Nat := (l.filter (!·)).length
theorem cnt_set : ∀ (l : List Bool) (i : Nat), l[i]? = some false → cnt (l.set i true) + 1 = cnt l
 | [], i, h => by simp at h
 | b :: l, 0, h => by simp at h; subst h; simp [cnt]
 | b :: l, i + 1, h => by
  have := cnt_set l i (by simpa using h)
  cases b <;> simp [cnt] at this ⊢ <;> omega
open Classical in
noncomputable def lagP (ops : Array Oper) (U : Nat → Prop) (σ : S) : S where
 regs := fun t => if ∃ i o, U i ∧ ops[i]? = some o ∧ o.dst = some t then .any else σ.regs t
 mem := σ.mem
theorem lagP_any {ops : Array Oper} {U : Nat → Prop} {σ : S} {t : Nat} (h : ∃ i o, U i ∧ ops[i]? = some o ∧ o.dst = some t) : (lagP ops U σ).regs t = .any := by
 simp only [lagP]; rw [if_pos h]
theorem lagP_else {ops : Array Oper} {U : Nat → Prop} {σ : S} {t : Nat} (h : ¬ ∃ i o, U i ∧ ops[i]? = some o ∧ o.dst = some t) : (lagP ops U σ).regs t = σ.regs t := by
 simp only [lagP]; rw [if_neg h]
theorem lagP_or {ops : Array Oper} {U : Nat → Prop} {σ : S} (t : Nat) : (lagP ops U σ).regs t = .any ∨ ((lagP ops U σ).regs t = σ.regs t ∧ ¬ ∃ i o, U i ∧ ops[i]? = some o ∧ o.dst = some t) := by
 by_cases h : ∃ i o, U i ∧ ops[i]? = some o ∧ o.dst = some t
 ·exact .inl (lagP_any h)
 ·exact .inr ⟨lagP_else h, h⟩
section
variable {c : Cx} {σ τ : S} {β : Nat → Value} {a b : Act} {w : World}
theorem Sim.part (h : Sim c σ β a w) (hm : τ.mem = σ.mem) (hs : b.tmps.size = a.tmps.size) (hdf : b.defers = a.defers)
    (hr : ∀ t, τ.regs t = .any ∨ (τ.regs t = σ.regs t ∧ b.tmps.getD t undef = a.tmps.getD t undef)) : Sim c τ β b w := by
  obtain ⟨rg, m⟩ := τ
  obtain rfl : m = σ.mem := hm
  exact { keep := h.keep, size := hs.trans h.size, df := hdf ▸ h.dfs (fun _ _ => rfl) (fun o x hx => .inl ⟨o, x, hx, rfl⟩), ext := h.ext, obj := h.obj, blk := h.blk, dis := h.dis, env := h.env,
          reg := fun t => by
            rcases hr t with e | ⟨e, e'⟩
            · rw [e]; exact .any
            · rw [e, e']; exact h.reg t }
theorem getD_false {listed : Array Bool} {j : Nat} (h : listed.getD j true = false) : listed.getD j false = false := by
 rcases Nat.lt_or_ge j listed.size with h' | h'
 ·simp [h'] at h ⊢; exact h
 ·simp [Array.getElem?_eq_none h'] at h
structure LagI (P : Program) (gl : Nat → Option (List D)) (ops : Array Oper) (listed : Array Bool) (k : Nat) (σ : S) : Prop where
 size : listed.size = ops.size
 low : ∀ j, k ≤ j → j < ops.size → listed.getD j true = false
 flt : ∀ i o d, i < k → listed.getD i true = false → ops[i]? = some o → o.dst = some d → opQ P gl o σ fun r => r = σ.regs d
 lag : ∀ i o, i < k → listed.getD i true = false → ops[i]? = some o → lagO o = true
 up : ∀ k' j, listed.getD k' true = false → (depT ops k').getD j false = true → listed.getD j true = false
abbrev lagU (listed : Array Bool) (k : Nat) (i : Nat) : Prop := i < k ∧ listed.getD i true = false
theorem size_of_at {ops : Array Oper} {i : Nat} {o : Oper} (h : ops[i]? = some o) : i < ops.size := (Array.getElem?_eq_some_iff.1 h).1
theorem low_at {ops : Array Oper} {listed : Array Bool} (hsz : listed.size = ops.size) {j : Nat} (h : listed.getD j true = false) : j < ops.size := by
 rcases Nat.lt_or_ge j listed.size with h' | h'
 ·omega
 ·simp [Array.getElem?_eq_none h'] at h
theorem ready_ex {ops : Array Oper} {listed : Array Bool} (hB : lagB ops = true) (hsz : listed.size = ops.size) : ∀ j, listed.getD j true = false → ∃ i, i ∈ Region.ready .any ops listed := by
 intro j
 induction j using Nat.strongRecOn with
 | _ j ih =>
  intro hj
  have hlt := low_at hsz hj
  have hoj : ops[j]? = some ops[j] := Array.getElem?_eq_getElem hlt
  by_cases hall : ∀ e ∈ (ops[j]).after, Region.binds .any e = true → listed.getD e.on false = true
  ·exact ⟨j, mem_ready.2 ⟨hj, _, hoj, hall⟩⟩
  ·simp only [Classical.not_forall] at hall
   obtain ⟨e, he, hb, hn⟩ := hall
   have hl := (lag_at hB hoj).low e he hb
   refine ih e.on hl ?_
   have hsz' : e.on < listed.size := by omega
   simp [hsz'] at hn ⊢
   exact hn
theorem not_ready {P : Program} {gl : Nat → Option (List D)} {ops : Array Oper} {listed : Array Bool} {k : Nat} (hB : lagB ops = true) (hI : LagI P gl ops listed k σ) {i k' : Nat} (hi : i ∈ Region.ready .any ops listed) (hk : listed.getD k' true = false) :
  (depT ops k').getD i false = false := by
 cases hd : (depT ops k').getD i false with
 | false => rfl
 | true =>
  exfalso
  obtain ⟨_, o, ho, hall⟩ := mem_ready.1 hi
  have hk' := low_at hI.size hk
  obtain ⟨o', ho', e, he, hb, hon⟩ := (lag_at hB (Array.getElem?_eq_getElem hk')).dep i hd
  rw [ho] at ho'; cases ho'
  have h1 := hall e he hb
  have h2 : listed.getD e.on true = false := by
   rcases hon with h | h
   ·rw [h]; exact hk
   ·exact hI.up k' _ hk h
  rw [getD_false h2] at h1
  cases h1
theorem LagI.set {P : Program} {gl : Nat → Option (List D)} {ops : Array Oper} {listed : Array Bool} {k : Nat} (hB : lagB ops = true) (hI : LagI P gl ops listed k σ) {i : Nat} (hi : i ∈ Region.ready .any ops listed) (hik : i < k) : LagI P gl ops (listed.setIfInBounds i true) k σ := by
 have hun : ∀ j, (listed.setIfInBounds i true).getD j true = false → j ≠ i ∧ listed.getD j true = false := fun j h => by
  by_cases hji : j = i
  ·subst hji
   have hlt : j < listed.size := by rw [hI.size]; exact low_at hI.size (mem_ready.1 hi).1
   simp [hlt] at h
  ·rw [getD_set_ne true (Ne.symm hji)] at h; exact ⟨hji, h⟩
 refine ⟨by simp [hI.size], fun j hj hs => ?_, fun j o d hj hu => hI.flt j o d hj (hun j hu).2, fun j o hj hu => hI.lag j o hj (hun j hu).2, fun k' j hk hd => ?_⟩
 ·rw [getD_set_ne true (by omega)]; exact hI.low j hj hs
 ·have h1 := hI.up k' j (hun k' hk).2 hd
  by_cases hji : j = i
  ·subst hji
   have := not_ready hB hI hi (hun k' hk).2
   rw [hd] at this; cases this
  ·rw [getD_set_ne true (Ne.symm hji)]; exact h1
theorem lag_ev {ops : Array Oper} {U : Nat → Prop} {i : Nat} {o : Oper} (hB : lagB ops = true) (ho : ops[i]? = some o) (hUl : ∀ j oj, U j → ops[j]? = some oj → lagO oj = true) (hno : ∀ e ∈ o.after, Region.binds .any e = true → ¬ U e.on) {t : Nat} (ht : Operand.tmp t ∈ o.op.operands) : ¬ ∃ i o, U i ∧ ops[i]? = some o ∧ o.dst = some t := by
 rintro ⟨j, oj, hU, hoj, hdj⟩
 obtain ⟨e, he, hb, hon⟩ := (lag_at hB ho).look j oj t hoj (hUl j oj hU hoj) hdj (by
  simp only [Oper.looksAt, List.mem_append, List.mem_filterMap]
  exact .inl ⟨_, by simpa using ht, rfl⟩)
 exact hno e he hb (by rw [hon]; exact hU)
theorem lag_ev' {ops : Array Oper} {U : Nat → Prop} {i : Nat} {o : Oper} {gl : Nat → Option (List D)} (hB : lagB ops = true) (ho : ops[i]? = some o) (hUl : ∀ j oj, U j → ops[j]? = some oj → lagO oj = true) (hno : ∀ e ∈ o.after, Region.binds .any e = true → ¬ U e.on) : ∀ x ∈ o.op.operands, (lagP ops U σ).eval gl x = σ.eval gl x := fun x hx => by
 cases x with
 | tmp t => exact lagP_else (lag_ev hB ho hUl hno hx)
 | const v => rfl
 | global g => rfl
 | func f => rfl
theorem lag_virt {ops : Array Oper} (hB : lagB ops = true) (hd : ∀ o ∈ ops.toList, ∀ d, o.dst = some d → d < c.N) {U : Nat → Prop} {k : Nat} (hk : k ≤ ops.size) (hflt : ∀ i o d, i < k → U i → ops[i]? = some o → o.dst = some d → opQ c.P c.gl o σ fun r => r = σ.regs d)
  (hlag : ∀ i o, i < k → U i → ops[i]? = some o → lagO o = true) (hs : Sim c (lagP ops (fun i => i < k ∧ U i) σ) β a w) :
  ∀ m, m ≤ k → ∃ b : Act, Sim c (lagP ops (fun i => m ≤ i ∧ i < k ∧ U i) σ) β b w ∧ b.tmps.size = a.tmps.size ∧ b.defers = a.defers ∧
   ∀ t, (¬ ∃ i o, (i < k ∧ U i) ∧ ops[i]? = some o ∧ o.dst = some t) → b.tmps.getD t undef = a.tmps.getD t undef
 | 0, _ => ⟨a, by simpa using hs, rfl, rfl, fun _ _ => rfl⟩
 | m + 1, hm => by
  obtain ⟨b, hb, h1, h2, h3⟩ := lag_virt hB hd hk hflt hlag hs m (by omega)
  by_cases hU : U m
  ·have ho : ops[m]? = some ops[m] := Array.getElem?_eq_getElem (by omega)
   obtain ⟨d, hdst⟩ := (lag_at hB ho).some_ (hlag m _ (by omega) hU ho)
   have hq := opQ_congr (gl := c.gl) (σ := σ) (σ' := lagP ops (fun i => m ≤ i ∧ i < k ∧ U i) σ) rfl (lag_ev' (U := fun i => m ≤ i ∧ i < k ∧ U i) hB ho (fun j oj hj hoj => hlag j oj hj.2.1 hj.2.2 hoj) fun e he hb hU' => by have := (lag_at hB ho).low e he hb; have := hU'.1; omega) (hflt m _ d (by omega) hU ho hdst)
   obtain ⟨v, r, _, rfl, hrel⟩ := lag_eval hb (hlag m _ (by omega) hU ho) hq
   have hdN : ∀ d', (some d : Option Tmp) = some d' → d' < c.N := fun d' e => hd _ (by simp) d' (hdst.trans e)
   refine ⟨b.put (some d) v, (hb.put hdN hrel).part rfl rfl rfl fun t => ?_, by simp [Act.put, h1], by simp [Act.put, h2], fun t ht => ?_⟩
   ·by_cases htd : t = d
    ·subst htd
     right
     refine ⟨?_, rfl⟩
     rw [lagP_else]
     ·simp [S.put, upd]
     ·rintro ⟨i, o, ⟨hi, _, _⟩, hoi, hdi⟩
      exact (lag_at hB ho).dst i o t hoi hdi (by omega) hdst
    ·by_cases hex : ∃ i o, (m + 1 ≤ i ∧ i < k ∧ U i) ∧ ops[i]? = some o ∧ o.dst = some t
     ·exact .inl (lagP_any hex)
     ·right
      refine ⟨?_, rfl⟩
      rw [lagP_else hex]
      simp only [S.put, upd, if_neg htd]
      rw [lagP_else]
      rintro ⟨i, o, ⟨hi, hi2, hi3⟩, hoi, hdi⟩
      by_cases him : i = m
      ·subst him
       rw [ho] at hoi; cases hoi
       rw [hdst] at hdi; cases hdi
       exact htd rfl
      ·exact hex ⟨i, o, ⟨by omega, hi2, hi3⟩, hoi, hdi⟩
   ·have htd : d ≠ t := fun e => ht ⟨m, _, ⟨by omega, hU⟩, ho, e ▸ hdst⟩
    rw [← h3 t ht]
    simp [Act.put, Array.getD_eq_getD_getElem?, Array.getElem?_setIfInBounds, htd]
  ·refine ⟨b, hb.part rfl rfl rfl fun t => ?_, h1, h2, h3⟩
   by_cases hex : ∃ i o, (m + 1 ≤ i ∧ i < k ∧ U i) ∧ ops[i]? = some o ∧ o.dst = some t
   ·exact .inl (lagP_any hex)
   ·right
    refine ⟨?_, rfl⟩
    rw [lagP_else hex, lagP_else]
    rintro ⟨i, o, ⟨hi, hi2, hi3⟩, hoi, hdi⟩
    have : i ≠ m := fun e => hU (e ▸ hi3)
    exact hex ⟨i, o, ⟨by omega, hi2, hi3⟩, hoi, hdi⟩
theorem lagU_put {ops : Array Oper} {U : Nat → Prop} {i d : Nat} {o : Oper} (hB : lagB ops = true) (ho : ops[i]? = some o) (hd : o.dst = some d) (t : Nat) :
  (lagP ops (fun j => j ≠ i ∧ U j) σ).regs t = .any ∨ (lagP ops (fun j => j ≠ i ∧ U j) σ).regs t = ((lagP ops U σ).put (some d) (σ.regs d)).regs t := by
 by_cases hex : ∃ j oj, (j ≠ i ∧ U j) ∧ ops[j]? = some oj ∧ oj.dst = some t
 ·exact .inl (lagP_any hex)
 ·right
  rw [lagP_else hex]
  by_cases htd : t = d
  ·subst htd; simp [S.put, upd]
  ·simp only [S.put, upd, if_neg htd]
   rw [lagP_else]
   rintro ⟨j, oj, hU, hoj, hdj⟩
   by_cases hji : j = i
   ·subst hji
    rw [ho] at hoj; cases hoj
    rw [hd] at hdj; cases hdj
    exact htd rfl
   ·exact hex ⟨j, oj, ⟨hji, hU⟩, hoj, hdj⟩
theorem lag_sound {ρ : Option Nat} {n : Nat} {ops : Array Oper} {Q : Exit → Act → World → Prop} {K : S → Prop} {D : List Deferred} (hB : lagB ops = true) (hQ : ∀ σ β a w, Sim c σ β a w → a.defers = D → K σ → Q .normal a w) (hd : ∀ o ∈ ops.toList, ∀ d, o.dst = some d → d < c.N) :
  ∀ (fuel : Nat) (l : List Oper) (k : Nat) (listed : Array Bool) {σ : S} {β : Nat → Value} {a : Act} {w : World}, (∀ j, l[j]? = ops[k + j]?) → k + l.length = ops.size → cnt listed.toList ≤ fuel → LagI c.P c.gl ops listed k σ → Sim c (lagP ops (lagU listed k) σ) β a w → a.defers = D → opsL c.P c.gl ops l k σ K → wpAnyIn (WF ρ) n c.P .any ops Q fuel listed a w := by
 intro fuel
 induction fuel with
 | zero =>
  intro l k listed σ β a w hl hlen hc hI hs hDf hk
  have none_ : ∀ j, listed.getD j true = false → False := fun j hj => by
   have hlt : j < listed.toList.length := by have := low_at hI.size hj; rw [Array.length_toList, hI.size]; exact this
   have : listed.toList[j]? = some false := by
    rw [List.getElem?_eq_getElem hlt]
    simp only [Array.length_toList] at hlt
    simp [hlt] at hj
    simpa using hj
   have := cnt_set _ _ this
   omega
  have hl0 : l = [] := by
   cases l with
   | nil => rfl
   | cons o l => exact (none_ k (hI.low k (Nat.le_refl _) (by simp at hlen; omega))).elim
  subst hl0
  refine ⟨?_, hQ σ β a w (hs.part rfl rfl rfl fun t => ?_) hDf hk⟩
  ·apply List.eq_nil_iff_forall_not_mem.2
   intro i hi
   exact none_ i (mem_ready.1 hi).1
  ·rcases lagP_or (ops := ops) (U := lagU listed k) (σ := σ) t with h | ⟨h, _⟩
   ·right
    refine ⟨?_, rfl⟩
    rw [lagP_else]
    rintro ⟨i, o, hU, _, _⟩
    exact none_ i hU.2
   ·exact .inr ⟨h.symm, rfl⟩
 | succ fuel ihf =>
  intro l
  -- what is done where the head is no late one, or nothing is left
  have main : ∀ (l : List Oper) (k : Nat) (listed : Array Bool) {σ : S} {β : Nat → Value} {a : Act} {w : World}, (∀ o rest, l = o :: rest → lagO o = false) → (∀ j, l[j]? = ops[k + j]?) → k + l.length = ops.size → cnt listed.toList ≤ fuel + 1 → LagI c.P c.gl ops listed k σ → Sim c (lagP ops (lagU listed k) σ) β a w → a.defers = D → opsL c.P c.gl ops l k σ K → wpAnyIn (WF ρ) n c.P .any ops Q (fuel + 1) listed a w := by
   intro l k listed σ β a w hno hl hlen hc hI hs hDf hk
   have kle : k ≤ ops.size := by omega
   refine ⟨fun hr => ?_, fun i hi => ?_⟩
   ·have none_ : ∀ j, listed.getD j true = false → False := fun j hj => by
     obtain ⟨i, hi⟩ := ready_ex hB hI.size j hj
     rw [hr] at hi; cases hi
    have hl0 : l = [] := by
     cases l with
     | nil => rfl
     | cons o l => exact (none_ k (hI.low k (Nat.le_refl _) (by simp at hlen; omega))).elim
    subst hl0
    refine hQ σ β a w (hs.part rfl rfl rfl fun t => ?_) hDf hk
    rcases lagP_or (ops := ops) (U := lagU listed k) (σ := σ) t with h | ⟨h, _⟩
    ·right
     refine ⟨?_, rfl⟩
     rw [lagP_else]
     rintro ⟨i, o, hU, _, _⟩
     exact none_ i hU.2
    ·exact .inr ⟨h.symm, rfl⟩
   ·obtain ⟨hun, o, ho, hall⟩ := mem_ready.1 hi
    have hat := lag_at hB ho
    have hlt := size_of_at ho
    have hdo := hd o (by rw [Array.mem_toList_iff]; exact Array.mem_of_getElem? ho)
    have hno' : ∀ e ∈ o.after, Region.binds .any e = true → ¬ lagU listed k e.on := fun e he hb hU => by
     have h1 := hall e he hb
     rw [getD_false hU.2] at h1; cases h1
    have hlt' : i < listed.toList.length := by rw [Array.length_toList, hI.size]; exact hlt
    have hcn : cnt (listed.setIfInBounds i true).toList ≤ fuel := by
     have h0 : listed.toList[i]? = some false := by
      rw [List.getElem?_eq_getElem hlt']
      simp only [Array.length_toList] at hlt'
      simp [hlt'] at hun
      simpa using hun
     have := cnt_set _ _ h0
     rw [Array.toList_setIfInBounds]
     omega
    have hset : ∀ j, (listed.setIfInBounds i true).getD j true = false ↔ j ≠ i ∧ listed.getD j true = false := fun j => by
     by_cases hji : j = i
     ·subst hji
      have : j < listed.size := by rw [hI.size]; exact hlt
      simp [this]
     ·rw [getD_set_ne true (Ne.symm hji)]; simp [hji]
    simp only [wpOpIn, ho]
    rw [show Region.wanted o (yielded ops a.tmps) = true by unfold Region.wanted; rw [hat.guard], if_pos rfl]
    rcases Nat.lt_trichotomy i k with hik | hik | hik
    ·-- a late one
     have hlg := hI.lag i o hik hun ho
     obtain ⟨d, hdst⟩ := hat.some_ hlg
     have hq := opQ_congr (gl := c.gl) (σ := σ) (σ' := lagP ops (lagU listed k) σ) rfl (lag_ev' (U := lagU listed k) hB ho (fun j oj hj hoj => hI.lag j oj hj.1 hj.2 hoj) hno') (hI.flt i o d hik hun ho hdst)
     obtain ⟨v, r, hrun, rfl, hrel⟩ := lag_eval hs hlg hq
     refine Run.val (Z := fun v' w' => v' = v ∧ w' = w) hat.dfr hrun ⟨rfl, rfl⟩ ρ n _ Q ?_
     rintro v' w' ⟨rfl, rfl⟩
     refine ihf l k _ hl hlen hcn (hI.set hB hi hik) ((hs.put hdo hrel).part (by rw [mem_put]; rfl) rfl rfl fun t => ?_) (by cases o.dst <;> exact hDf) hk
     rw [hdst]
     have hU : lagU (listed.setIfInBounds i true) k = fun j => j ≠ i ∧ lagU listed k j := by
      funext j; simp only [lagU, hset]; exact propext ⟨fun h => ⟨h.2.1, h.1, h.2.2⟩, fun h => ⟨h.2.1, h.1, h.2.2⟩⟩
     rw [hU]
     rcases lagU_put (σ := σ) (U := lagU listed k) hB ho hdst t with h | h
     ·exact .inl h
     ·exact .inr ⟨h, rfl⟩
    ·-- the one at hand
     subst hik
     cases l with
     | nil => simp at hlen; omega
     | cons oh rest =>
     have h0 : ops[i]? = some oh := by simpa using (hl 0).symm
     rw [ho] at h0; cases h0
     have hnl := hno o rest rfl
     have hl' : ∀ j, rest[j]? = ops[i + 1 + j]? := fun j => by have := hl (j + 1); simpa [Nat.add_assoc, Nat.add_comm 1 j] using this
     simp only [opsL, hnl] at hk
     obtain ⟨b, hb, hb1, hb2, hb3⟩ := lag_virt (U := fun j => listed.getD j true = false) hB hd kle (fun j oj d h1 h2 => hI.flt j oj d h1 h2) (fun j oj h1 h2 => hI.lag j oj h1 h2) hs i (Nat.le_refl _)
     have hb' : Sim c σ β b w := hb.part rfl rfl rfl fun t => .inr ⟨by
      rw [lagP_else]
      rintro ⟨j, oj, ⟨h1, h2, _⟩, _, _⟩
      omega, rfl⟩
     have hrun := opA_sound hb' hdo hk
     have hev : ∀ x ∈ o.op.operands, a.eval x = b.eval x := fun x hx => by
      cases x with
      | tmp t => exact (hb3 t (lag_ev (U := lagU listed i) hB ho (fun j oj hj hoj => hI.lag j oj hj.1 hj.2 hoj) hno' hx)).symm
      | const v => rfl
      | global g => rfl
      | func f => rfl
     refine Run.congr hat.dfr hat.sel hev hb1.symm hrun ρ n _ Q ?_
     rintro v w' ⟨σ', β', ⟨hf, hk'⟩, hs'⟩
     have hun' : ∀ j, (listed.setIfInBounds i true).getD j true = false → j < i + 1 → j < i ∧ listed.getD j true = false := fun j h h' => by
      obtain ⟨h1, h2⟩ := (hset j).1 h
      exact ⟨by omega, h2⟩
     refine ihf (β := β') rest (i + 1) _ hl' (by simp at hlen; omega) hcn ⟨by simp [hI.size], fun j hj hjs => ?_, fun j oj d hj hu hoj hdj => ?_, fun j oj hj hu hoj => ?_, fun k' j hk' hdp => ?_⟩ ?_ (by cases o.dst <;> exact hDf) hk'
     ·exact (hset j).2 ⟨by omega, hI.low j (by omega) hjs⟩
     ·obtain ⟨h1, h2⟩ := hun' j hu hj
      refine fltK_at hf j ?_ oj d hoj hdj
      simp only [fidx, List.mem_filter, List.mem_range, hoj, Bool.and_eq_true, Bool.not_eq_true']
      exact ⟨h1, hI.lag j oj h1 h2 hoj, not_ready hB hI hi h2⟩
     ·obtain ⟨h1, h2⟩ := hun' j hu hj
      exact hI.lag j oj h1 h2 hoj
     ·obtain ⟨h1, h2⟩ := (hset k').1 hk'
      refine (hset j).2 ⟨fun e => ?_, hI.up k' j h2 hdp⟩
      subst e
      have := not_ready hB hI hi h2
      rw [hdp] at this; cases this
     ·refine hs'.part rfl (by cases hdd : o.dst <;> simp [Act.put, hb1]) (by cases hdd : o.dst <;> simp [Act.put, hb2]) fun t => ?_
      by_cases hex : ∃ j oj, lagU (listed.setIfInBounds i true) (i + 1) j ∧ ops[j]? = some oj ∧ oj.dst = some t
      ·exact .inl (lagP_any hex)
      ·right
       refine ⟨lagP_else hex, ?_⟩
       have hbt := hb3 t fun ⟨j, oj, ⟨h1, h2⟩, hoj, hdj⟩ => hex ⟨j, oj, ⟨by omega, (hset j).2 ⟨by omega, h2⟩⟩, hoj, hdj⟩
       cases hdd : o.dst with
       | none => exact hbt.symm
       | some d =>
        by_cases htd : d = t
        ·subst htd
         have : d < b.tmps.size := by rw [hb'.size]; exact hdo d hdd
         simp [Act.put, Array.getD_eq_getD_getElem?, this, hb1.symm ▸ this, ← hb1]
        ·simp [Act.put, Array.getD_eq_getD_getElem?, Array.getElem?_setIfInBounds, htd] at hbt ⊢
         exact hbt.symm
    ·-- what is behind waits
     exfalso
     have hkl : k < ops.size := by omega
     cases l with
     | nil => simp at hlen; omega
     | cons oh rest =>
     have h0 : ops[k]? = some oh := by simpa using (hl 0).symm
     have h1 := (lag_at hB h0).all_ (hno oh rest rfl) i hik hlt
     have h2 := not_ready hB hI hi (hI.low k (Nat.le_refl _) hkl)
     rw [h1] at h2; cases h2
  induction l with
  | nil =>
   intro k listed σ β a w hl hlen hc hI hs hDf hk
   exact main [] k listed (fun o rest e => by cases e) hl hlen hc hI hs hDf hk
  | cons o rest ihl =>
   intro k listed σ β a w hl hlen hc hI hs hDf hk
   cases hlg : lagO o with
   | false => exact main (o :: rest) k listed (fun o' rest' e => by cases e; exact hlg) hl hlen hc hI hs hDf hk
   | true =>
    have ho : ops[k]? = some o := by simpa using (hl 0).symm
    have hat := lag_at hB ho
    have hl' : ∀ j, rest[j]? = ops[k + 1 + j]? := fun j => by have := hl (j + 1); simpa [Nat.add_assoc, Nat.add_comm 1 j] using this
    have hlt := size_of_at ho
    obtain ⟨d, hdst⟩ := hat.some_ hlg
    simp only [opsL, hlg] at hk
    obtain ⟨r, hk', hq⟩ := opQ_split hk
    have hself : ∀ {j : Nat} {oj : Oper}, j ≤ k → ops[j]? = some oj → ∀ d', o.dst = some d' → d' ∉ oj.looksAt ops := fun {j oj} hj hoj d' hd' hin => by
     obtain ⟨e, he, hb, hon⟩ := (lag_at hB hoj).look k o d' ho hlg hd' hin
     have := (lag_at hB hoj).low e he hb
     omega
    refine ihl (k + 1) listed hl' (by simp at hlen; omega) hc ⟨hI.size, fun j hj => hI.low j (by omega), fun j oj dj hj hu hoj hdj => ?_, fun j oj hj hu hoj => ?_, hI.up⟩ (hs.part (by rw [show (lagP ops (lagU listed (k + 1)) (σ.put o.dst r)).mem = (σ.put o.dst r).mem from rfl, mem_put]; rfl) rfl rfl fun t => ?_) hDf hk'
    ·refine (opQ_put (hself (by omega) hoj)).2 ?_
     by_cases hjk : j = k
     ·subst hjk
      rw [ho] at hoj; cases hoj
      rw [hdst] at hdj; cases hdj
      exact hq _ (by rw [hdst]; simp [S.put, upd])
     ·have := hI.flt j oj dj (by omega) hu hoj hdj
      have hne : dj ≠ d := fun e => hat.dst j oj d hoj (e ▸ hdj) (Ne.symm hjk) hdst
      rw [hdst]
      simpa [S.put, upd, hne] using this
    ·by_cases hjk : j = k
     ·subst hjk
      rw [ho] at hoj; cases hoj; exact hlg
     ·exact hI.lag j oj (by omega) hu hoj
    ·by_cases hex : ∃ j oj, lagU listed (k + 1) j ∧ ops[j]? = some oj ∧ oj.dst = some t
     ·exact .inl (lagP_any hex)
     ·right
      refine ⟨?_, rfl⟩
      rw [lagP_else hex, lagP_else fun ⟨j, oj, hU, hoj, hdj⟩ => hex ⟨j, oj, ⟨by omega, hU.2⟩, hoj, hdj⟩]
      have : t ≠ d := fun e => hex ⟨k, o, ⟨by omega, hI.low k (Nat.le_refl _) hlt⟩, ho, e ▸ hdst⟩
      rw [hdst]
      simp [S.put, upd, this]
end
theorem draw_lag {P : Program} {gl : Nat → Option (List D)} {id : Nat} {ops : Array Oper} {Q : Ex → S → Prop} {σ : S} (hB : lagB ops = true) (h : opsL P gl ops ops.toList 0 σ (Q .normal)) : SemCode P gl (.region id ops true) Q σ := by
 intro c β a w ρ n hP hgl hm hdN _ hs
 subst hP; subst hgl
 have hdst : ∀ o ∈ ops.toList, ∀ d, o.dst = some d → d < c.N := fun o ho d hod => by
  have := List.all_eq_true.1 hdN o ho
  rw [hod] at this
  simpa using this
 refine wpIn_region_any hm (lag_sound (K := Q .normal) (D := a.defers) hB (fun σ β a w hs _ hk => ⟨σ, β, hs, hk⟩) hdst ops.size ops.toList 0 _ (by simp) (by simp) ?_ ?_ ((hs.drawn _).part rfl rfl rfl fun t => .inr ⟨?_, rfl⟩) rfl h)
 ·have : ∀ m, cnt (List.replicate m false) = m := fun m => by simp [cnt]
  simp [this]
 ·refine ⟨by simp, fun j _ hj => by simp [hj], fun i o d hi => absurd hi (Nat.not_lt_zero _), fun i o hi => absurd hi (Nat.not_lt_zero _), fun k' j hk' hd => ?_⟩
  have hk : k' < ops.size := by
   rcases Nat.lt_or_ge k' ops.size with h | h
   ·exact h
   ·simp [Array.getElem?_eq_none, h] at hk'
  obtain ⟨oj, hoj, _⟩ := (lag_at hB (Array.getElem?_eq_getElem hk)).dep j hd
  simp [size_of_at hoj]
 ·rw [lagP_else]
  rintro ⟨i, o, hU, _, _⟩
  exact absurd hU.1 (Nat.not_lt_zero _)
def fltO (P : Program) (gl : Nat → Option (List D)) : Option Oper → S → Prop
 | some ⟨some d, op, ty, pos, after, g⟩, σ => opQ P gl ⟨some d, op, ty, pos, after, g⟩ σ fun r => r = σ.regs d
 | _, _ => True
def fltL (P : Program) (gl : Nat → Option (List D)) (l : List Oper) : List Nat → S → Prop
 | [], _ => True
 | i :: is, σ => fltO P gl l[i]? σ ∧ fltL P gl l is σ
def ftl (F : List (List Nat)) (K : List Nat → List (List Nat) → Prop) : Prop := match F with
 | f :: F => K f F
 | [] => False
def opsF (P : Program) (gl : Nat → Option (List D)) (l : List Oper) : List Oper → List (List Nat) → S → (S → Prop) → Prop
 | [], _, σ, K => K σ
 | o :: rest, F, σ, K => inG (lagO o) (opQ P gl o σ fun r => opsF P gl l rest F (σ.put o.dst r) K) (ftl F fun f F => opA P gl o σ fun σ' => fltL P gl l f σ' ∧ opsF P gl l rest F σ' K)
def lagFs (ops : Array Oper) : List Oper → List (List Nat) → Nat → Bool
 | [], _, _ => true
 | o :: rest, F, k => match lagO o, F with
  | true, F => lagFs ops rest F (k + 1)
  | false, f :: F => fidx ops k == f && lagFs ops rest F (k + 1)
  | false, [] => false
theorem fltL_K {P : Program} {gl : Nat → Option (List D)} {l : List Oper} {σ : S} : ∀ {is : List Nat}, fltL P gl l is σ → fltK P gl l.toArray is σ
 | [], _ => trivial
 | i :: is, h => by
  refine ⟨?_, fltL_K h.2⟩
  have h1 := h.1
  rw [List.getElem?_toArray]
  cases ho : l[i]? with
  | none => trivial
  | some o =>
   rw [ho] at h1
   obtain ⟨dst, op, ty, pos, after, g⟩ := o
   cases dst with
   | none => trivial
   | some d => exact h1
theorem opsF_L {P : Program} {gl : Nat → Option (List D)} {l : List Oper} {K : S → Prop} : ∀ (rest : List Oper) (F : List (List Nat)) (k : Nat) {σ : S}, lagFs l.toArray rest F k = true → opsF P gl l rest F σ K → opsL P gl l.toArray rest k σ K
 | [], F, k, σ, _, h => h
 | o :: rest, F, k, σ, hF, h => by
  simp only [opsF, opsL, lagFs] at h hF ⊢
  cases hl : lagO o with
  | true =>
   rw [hl] at h hF
   exact opQ_mono (fun r => opsF_L rest F (k + 1) hF) h
  | false =>
   rw [hl] at h hF
   cases F with
   | nil => cases hF
   | cons f F =>
    simp only [Bool.and_eq_true, beq_iff_eq] at hF
    refine opA_mono (fun σ' h' => ⟨?_, opsF_L rest F (k + 1) hF.2 h'.2⟩) (show opA P gl o σ _ from h)
    rw [hF.1]
    exact fltL_K h'.1
theorem draw_F {P : Program} {gl : Nat → Option (List D)} {id : Nat} {l : List Oper} {Q : Ex → S → Prop} {σ : S} {X : Prop} (F : List (List Nat)) (hB : (lagB l.toArray && lagFs l.toArray l F 0) = true) (h : opsF P gl l l F σ (Q .normal)) : drawK l.toArray X (SemCode P gl (.region id l.toArray true) Q σ) := by
 rw [Bool.and_eq_true] at hB
 exact draw_sem (draw_lag hB.1 (opsF_L l F 0 hB.2 h))
section
variable {P : Program} {gl : Nat → Option (List D)} {l rest : List Oper} {F : List (List Nat)} {σ : S} {K : S → Prop} {dst : Option Tmp} {op : Op} {ty : TypeId} {pos : String} {after : Array Edge} {g : Option (Nat × Bool)} {d t : Tmp}
theorem f_nil : opsF P gl l [] F σ K = K σ := rfl
theorem f_cons : opsF P gl l (⟨dst, op, ty, pos, after, g⟩ :: rest) F σ K = inG (lagO ⟨dst, op, ty, pos, after, g⟩) (opQ P gl ⟨dst, op, ty, pos, after, g⟩ σ fun r => opsF P gl l rest F (σ.put dst r) K) (ftl F fun f F => opA P gl ⟨dst, op, ty, pos, after, g⟩ σ fun σ' => fltL P gl l f σ' ∧ opsF P gl l rest F σ' K) := rfl
theorem ft_cons {f : List Nat} {F : List (List Nat)} {K : List Nat → List (List Nat) → Prop} : ftl (f :: F) K = K f F := rfl
theorem fl_nil' : fltL P gl l [] σ = True := rfl
theorem fl_cons' {i : Nat} {is : List Nat} : fltL P gl l (i :: is) σ = (fltO P gl l[i]? σ ∧ fltL P gl l is σ) := rfl
theorem fo_some : fltO P gl (some ⟨some d, op, ty, pos, after, g⟩) σ = opQ P gl ⟨some d, op, ty, pos, after, g⟩ σ fun r => r = σ.regs d := rfl
theorem lo_mv : lagO ⟨dst, .move (.tmp t), ty, pos, after, none⟩ = true := rfl
theorem lo_ld {u : TypeId} : lagO ⟨dst, .load u (.tmp t), ty, pos, after, none⟩ = true := rfl
theorem lo_fld {u : TypeId} {f : Nat} : lagO ⟨dst, .fieldAddr u (.tmp t) f, ty, pos, after, none⟩ = true := rfl
theorem lo_nil : lagO ⟨dst, .nilCheck (.tmp t), ty, pos, after, none⟩ = true := rfl
theorem lo_mc {v : Value} : lagO ⟨dst, .move (.const v), ty, pos, after, none⟩ = false := rfl
theorem lo_asg {x : Operand} : lagO ⟨dst, .assign x, ty, pos, after, none⟩ = false := rfl
theorem lo_bld {u : TypeId} {ps : Array (Nat × Operand)} : lagO ⟨dst, .build u ps, ty, pos, after, none⟩ = false := rfl
theorem lo_bsl {u : TypeId} {n : Nat} {ps : Array (Nat × Operand)} : lagO ⟨dst, .buildSlice u n ps, ty, pos, after, none⟩ = false := rfl
theorem lo_cal {f : Operand} {xs : Array Operand} {ts : Array TypeId} : lagO ⟨dst, .call ⟨.value f, xs, ts⟩, ty, pos, after, none⟩ = false := rfl
theorem lo_len {xs : Array Operand} {ts : Array TypeId} : lagO ⟨dst, .call ⟨.builtin .len, xs, ts⟩, ty, pos, after, none⟩ = true := rfl
theorem lo_min {xs : Array Operand} {ts : Array TypeId} : lagO ⟨dst, .call ⟨.builtin .min, xs, ts⟩, ty, pos, after, none⟩ = true := rfl
theorem lo_app {xs : Array Operand} {ts : Array TypeId} : lagO ⟨dst, .call ⟨.builtin .append, xs, ts⟩, ty, pos, after, none⟩ = false := rfl
theorem lo_slc {u : TypeId} {t' : Tmp} : lagO ⟨dst, .slice u (.tmp t) none (some (.tmp t')) none, ty, pos, after, none⟩ = true := rfl
theorem lo_sto {u : TypeId} {x y : Operand} : lagO ⟨dst, .store u x y, ty, pos, after, none⟩ = false := rfl
theorem lo_mku {u : TypeId} {x y z : Operand} : lagO ⟨dst, .mapUpdate u x y z, ty, pos, after, none⟩ = false := rfl
theorem lo_bin {b : BinOp} {u v : TypeId} {t' : Tmp} : lagO ⟨dst, .binOp b u (.tmp t) (.tmp t') v, ty, pos, after, none⟩ = true := rfl
theorem lo_bic {b : BinOp} {u v : TypeId} {z : Value} : lagO ⟨dst, .binOp b u (.tmp t) (.const z) v, ty, pos, after, none⟩ = false := rfl
theorem lo_bci {b : BinOp} {u v : TypeId} {z : Value} : lagO ⟨dst, .binOp b u (.const z) (.tmp t) v, ty, pos, after, none⟩ = false := rfl
theorem lo_idx {u : TypeId} {t' : Tmp} : lagO ⟨dst, .indexAddr u (.tmp t) (.tmp t'), ty, pos, after, none⟩ = true := rfl
theorem lo_ext {x : Operand} {i : Nat} : lagO ⟨dst, .extract x i, ty, pos, after, none⟩ = false := rfl
theorem lo_box {u : TypeId} {x : Operand} : lagO ⟨dst, .box u x, ty, pos, after, none⟩ = false := rfl
theorem lo_alc {u : TypeId} : lagO ⟨dst, .alloc u, ty, pos, after, none⟩ = false := rfl
theorem lo_lk {u : TypeId} {x i : Operand} {ok : Bool} : lagO ⟨dst, .lookup u x i ok, ty, pos, after, none⟩ = false := rfl
theorem lo_cv {u v : TypeId} {x : Operand} : lagO ⟨dst, .convert u v x, ty, pos, after, none⟩ = false := rfl
end
def PG :=
 And.intro (@f_nil) <| And.intro (@f_cons) <| And.intro (@ft_cons) <| And.intro (@fl_nil') <| And.intro (@fl_cons') <| And.intro (@fo_some) <| And.intro (@lo_mv) <| And.intro (@lo_ld) <| And.intro (@lo_fld) <| And.intro (@lo_nil) <| And.intro (@lo_mc) <| And.intro (@lo_asg) <| And.intro (@lo_bld) <| And.intro (@lo_bsl) <| And.intro (@lo_cal) <| And.intro (@lo_sto) <| And.intro (@lo_mku) <| And.intro (@lo_bin) <| And.intro (@lo_bic) <| And.intro (@lo_bci) <| And.intro (@lo_idx) <| And.intro (@lo_ext) <| And.intro (@lo_box) <| And.intro (@lo_alc) <| And.intro (@lo_lk) <| And.intro (@lo_len) <| And.intro (@lo_min) <| And.intro (@lo_app) <| And.intro (@lo_slc) <| @lo_cv
attribute [go_sem] PG
end Go.VC
end
