/- What the program's types are: sizes, zero values. -/
import Derived.Test.YtldnkeackphilaaGreatDoorNv7
import Derived.Test.YtldnkeackphilaaGreatDoorProg
import Derived.Test.YtldnkeackphilaaGreatDoorNv18
set_option linter.unusedSimpArgs false
set_option linter.unusedVariables false
namespace Go.Proofs.YtldnkeackphilaaGreatDoor
open Go.RowKit
@[simp] theorem Tryz.sz1 : szP Tryz.prog 1 = 1 := by kernel_rfl
@[simp] theorem Tryz.row1 : isRowT Tryz.prog 1 = false := by kernel_rfl
@[simp] theorem Tryz.inf1 : infP Tryz.prog 1 = true := by kernel_rfl
@[simp] theorem Tryz.und1 : undP Tryz.prog 1 = true := by kernel_rfl
@[simp] theorem Tryz.ifc1 : ifcP Tryz.prog 1 = false := by kernel_rfl
@[simp] theorem Tryz.by1 : bytesP Tryz.prog 1 = 8 := by kernel_rfl
@[simp] theorem Tryz.zero1 : zeroP Tryz.prog 1 = some (.nilFunc) := by kernel_rfl
@[simp] theorem Tryz.zok1 : zokP Tryz.prog 1 = true := by kernel_rfl
@[simp] theorem Tryz.zbox1 : zbox Tryz.prog 1 = some ([.imm (.nilFunc)], [none, none]) := by kernel_rfl
@[simp] theorem Tryz.sz2 : szP Tryz.prog 2 = 1 := by kernel_rfl
@[simp] theorem Tryz.row2 : isRowT Tryz.prog 2 = false := by kernel_rfl
@[simp] theorem Tryz.inf2 : infP Tryz.prog 2 = true := by kernel_rfl
@[simp] theorem Tryz.und2 : undP Tryz.prog 2 = true := by kernel_rfl
@[simp] theorem Tryz.kind2 : kindP Tryz.prog 2 = some .i64 := by kernel_rfl
@[simp] theorem Tryz.ifc2 : ifcP Tryz.prog 2 = false := by kernel_rfl
@[simp] theorem Tryz.by2 : bytesP Tryz.prog 2 = 8 := by kernel_rfl
@[simp] theorem Tryz.zero2 : zeroP Tryz.prog 2 = some (.int .i64 0) := by kernel_rfl
@[simp] theorem Tryz.zok2 : zokP Tryz.prog 2 = true := by kernel_rfl
@[simp] theorem Tryz.zbox2 : zbox Tryz.prog 2 = some ([.imm (.int .i64 0)], [none, none]) := by kernel_rfl
@[simp] theorem Tryz.sz3 : szP Tryz.prog 3 = 1 := by kernel_rfl
@[simp] theorem Tryz.row3 : isRowT Tryz.prog 3 = false := by kernel_rfl
@[simp] theorem Tryz.inf3 : infP Tryz.prog 3 = true := by kernel_rfl
@[simp] theorem Tryz.und3 : undP Tryz.prog 3 = true := by kernel_rfl
@[simp] theorem Tryz.kind3 : kindP Tryz.prog 3 = some .i64 := by kernel_rfl
@[simp] theorem Tryz.ifc3 : ifcP Tryz.prog 3 = false := by kernel_rfl
@[simp] theorem Tryz.by3 : bytesP Tryz.prog 3 = 8 := by kernel_rfl
@[simp] theorem Tryz.zero3 : zeroP Tryz.prog 3 = some (.int .i64 0) := by kernel_rfl
@[simp] theorem Tryz.zok3 : zokP Tryz.prog 3 = true := by kernel_rfl
@[simp] theorem Tryz.zsz3 : zszP Tryz.prog 3 = true := zsz_of _ _ Tryz.zok3
@[simp] theorem Tryz.zbox3 : zbox Tryz.prog 3 = some ([.imm (.int .i64 0)], [none, none]) := by kernel_rfl
@[simp] theorem Tryz.sz4 : szP Tryz.prog 4 = 1 := by kernel_rfl
@[simp] theorem Tryz.row4 : isRowT Tryz.prog 4 = false := by kernel_rfl
@[simp] theorem Tryz.inf4 : infP Tryz.prog 4 = true := by kernel_rfl
@[simp] theorem Tryz.und4 : undP Tryz.prog 4 = true := by kernel_rfl
@[simp] theorem Tryz.bool4 : boolP Tryz.prog 4 = true := by kernel_rfl
@[simp] theorem Tryz.ifc4 : ifcP Tryz.prog 4 = false := by kernel_rfl
@[simp] theorem Tryz.by4 : bytesP Tryz.prog 4 = 1 := by kernel_rfl
@[simp] theorem Tryz.zero4 : zeroP Tryz.prog 4 = some (.bool false) := by kernel_rfl
@[simp] theorem Tryz.zok4 : zokP Tryz.prog 4 = true := by kernel_rfl
@[simp] theorem Tryz.zbox4 : zbox Tryz.prog 4 = some ([.imm (.bool false)], [none, none]) := by kernel_rfl
@[simp] theorem Tryz.sz5 : szP Tryz.prog 5 = 1 := by kernel_rfl
@[simp] theorem Tryz.row5 : isRowT Tryz.prog 5 = false := by kernel_rfl
@[simp] theorem Tryz.inf5 : infP Tryz.prog 5 = true := by kernel_rfl
@[simp] theorem Tryz.und5 : undP Tryz.prog 5 = true := by kernel_rfl
@[simp] theorem Tryz.kind5 : kindP Tryz.prog 5 = some .u8 := by kernel_rfl
@[simp] theorem Tryz.ifc5 : ifcP Tryz.prog 5 = false := by kernel_rfl
@[simp] theorem Tryz.by5 : bytesP Tryz.prog 5 = 1 := by kernel_rfl
@[simp] theorem Tryz.zero5 : zeroP Tryz.prog 5 = some (.int .u8 0) := by kernel_rfl
@[simp] theorem Tryz.zok5 : zokP Tryz.prog 5 = true := by kernel_rfl
@[simp] theorem Tryz.zbox5 : zbox Tryz.prog 5 = some ([.imm (.int .u8 0)], [none, none]) := by kernel_rfl
@[simp] theorem Tryz.sz6 : szP Tryz.prog 6 = 1 := by kernel_rfl
@[simp] theorem Tryz.row6 : isRowT Tryz.prog 6 = false := by kernel_rfl
@[simp] theorem Tryz.inf6 : infP Tryz.prog 6 = true := by kernel_rfl
@[simp] theorem Tryz.und6 : undP Tryz.prog 6 = true := by kernel_rfl
@[simp] theorem Tryz.kind6 : kindP Tryz.prog 6 = some .u8 := by kernel_rfl
@[simp] theorem Tryz.ifc6 : ifcP Tryz.prog 6 = false := by kernel_rfl
@[simp] theorem Tryz.by6 : bytesP Tryz.prog 6 = 1 := by kernel_rfl
@[simp] theorem Tryz.zero6 : zeroP Tryz.prog 6 = some (.int .u8 0) := by kernel_rfl
@[simp] theorem Tryz.zok6 : zokP Tryz.prog 6 = true := by kernel_rfl
@[simp] theorem Tryz.zbox6 : zbox Tryz.prog 6 = some ([.imm (.int .u8 0)], [none, none]) := by kernel_rfl
@[simp] theorem Tryz.sz7 : szP Tryz.prog 7 = 4 := by kernel_rfl
@[simp] theorem Tryz.row7 : isRowT Tryz.prog 7 = true := by kernel_rfl
@[simp] theorem Tryz.inf7 : infP Tryz.prog 7 = true := by kernel_rfl
@[simp] theorem Tryz.und7 : undP Tryz.prog 7 = true := by kernel_rfl
@[simp] theorem Tryz.ifc7 : ifcP Tryz.prog 7 = false := by kernel_rfl
@[simp] theorem Tryz.eq7 : eqTP Tryz.prog 7 = true := by kernel_rfl
@[simp] theorem Tryz.typs7 : typsP Tryz.prog 7 = [2, 3, 4, 6] := by kernel_rfl
@[simp] theorem Tryz.zpl7 : zplP Tryz.prog 7 = some ([.int .i64 0, .int .i64 0, .bool false, .int .u8 0], [(0, 1), (1, 1), (2, 1), (3, 1)]) := by kernel_rfl
@[simp] theorem Tryz.fld7_0 : fldP Tryz.prog 7 0 = some (0, 2) := by kernel_rfl
@[simp] theorem Tryz.fld7_1 : fldP Tryz.prog 7 1 = some (1, 3) := by kernel_rfl
@[simp] theorem Tryz.fld7_2 : fldP Tryz.prog 7 2 = some (2, 4) := by kernel_rfl
@[simp] theorem Tryz.fld7_3 : fldP Tryz.prog 7 3 = some (3, 6) := by kernel_rfl
@[simp] theorem Tryz.by7 : bytesP Tryz.prog 7 = 24 := by kernel_rfl
@[simp] theorem Tryz.zero7 : zeroP Tryz.prog 7 = some (.agg #[.int .i64 0, .int .i64 0, .bool false, .int .u8 0]) := by kernel_rfl
@[simp] theorem Tryz.zok7 : zokP Tryz.prog 7 = true := by kernel_rfl
@[simp] theorem Tryz.zbox7 : zbox Tryz.prog 7 = some ([.imm (.int .i64 0), .imm (.int .i64 0), .imm (.bool false), .imm (.int .u8 0)], [none, none, none, none, none]) := by kernel_rfl
@[simp] theorem Tryz.sz8 : szP Tryz.prog 8 = 4 := by kernel_rfl
@[simp] theorem Tryz.row8 : isRowT Tryz.prog 8 = true := by kernel_rfl
@[simp] theorem Tryz.inf8 : infP Tryz.prog 8 = true := by kernel_rfl
@[simp] theorem Tryz.und8 : undP Tryz.prog 8 = true := by kernel_rfl
@[simp] theorem Tryz.ifc8 : ifcP Tryz.prog 8 = false := by kernel_rfl
@[simp] theorem Tryz.eq8 : eqTP Tryz.prog 8 = true := by kernel_rfl
@[simp] theorem Tryz.typs8 : typsP Tryz.prog 8 = [2, 3, 4, 6] := by kernel_rfl
@[simp] theorem Tryz.zpl8 : zplP Tryz.prog 8 = some ([.int .i64 0, .int .i64 0, .bool false, .int .u8 0], [(0, 1), (1, 1), (2, 1), (3, 1)]) := by kernel_rfl
@[simp] theorem Tryz.fld8_0 : fldP Tryz.prog 8 0 = some (0, 2) := by kernel_rfl
@[simp] theorem Tryz.fld8_1 : fldP Tryz.prog 8 1 = some (1, 3) := by kernel_rfl
@[simp] theorem Tryz.fld8_2 : fldP Tryz.prog 8 2 = some (2, 4) := by kernel_rfl
@[simp] theorem Tryz.fld8_3 : fldP Tryz.prog 8 3 = some (3, 6) := by kernel_rfl
@[simp] theorem Tryz.by8 : bytesP Tryz.prog 8 = 24 := by kernel_rfl
@[simp] theorem Tryz.zero8 : zeroP Tryz.prog 8 = some (.agg #[.int .i64 0, .int .i64 0, .bool false, .int .u8 0]) := by kernel_rfl
@[simp] theorem Tryz.zok8 : zokP Tryz.prog 8 = true := by kernel_rfl
@[simp] theorem Tryz.zbox8 : zbox Tryz.prog 8 = some ([.imm (.int .i64 0), .imm (.int .i64 0), .imm (.bool false), .imm (.int .u8 0)], [none, none, none, none, none]) := by kernel_rfl
@[simp] theorem Tryz.sz9 : szP Tryz.prog 9 = 1 := by kernel_rfl
@[simp] theorem Tryz.row9 : isRowT Tryz.prog 9 = false := by kernel_rfl
@[simp] theorem Tryz.inf9 : infP Tryz.prog 9 = true := by kernel_rfl
@[simp] theorem Tryz.und9 : undP Tryz.prog 9 = true := by kernel_rfl
@[simp] theorem Tryz.str9 : strP Tryz.prog 9 = true := by kernel_rfl
@[simp] theorem Tryz.ifc9 : ifcP Tryz.prog 9 = false := by kernel_rfl
@[simp] theorem Tryz.by9 : bytesP Tryz.prog 9 = 16 := by kernel_rfl
@[simp] theorem Tryz.zero9 : zeroP Tryz.prog 9 = some (.string ⟨#[]⟩) := by kernel_rfl
@[simp] theorem Tryz.zok9 : zokP Tryz.prog 9 = true := by kernel_rfl
@[simp] theorem Tryz.zbox9 : zbox Tryz.prog 9 = some ([.imm (.string ⟨#[]⟩)], [none, none]) := by kernel_rfl
@[simp] theorem Tryz.sz20 : szP Tryz.prog 20 = 1 := by kernel_rfl
@[simp] theorem Tryz.row20 : isRowT Tryz.prog 20 = false := by kernel_rfl
@[simp] theorem Tryz.inf20 : infP Tryz.prog 20 = true := by kernel_rfl
@[simp] theorem Tryz.und20 : undP Tryz.prog 20 = true := by kernel_rfl
@[simp] theorem Tryz.ifc20 : ifcP Tryz.prog 20 = true := by kernel_rfl
@[simp] theorem Tryz.by20 : bytesP Tryz.prog 20 = 16 := by kernel_rfl
@[simp] theorem Tryz.zero20 : zeroP Tryz.prog 20 = some (.nilIface) := by kernel_rfl
@[simp] theorem Tryz.zok20 : zokP Tryz.prog 20 = true := by kernel_rfl
@[simp] theorem Tryz.zbox20 : zbox Tryz.prog 20 = some ([.imm (.nilIface)], [none, none]) := by kernel_rfl
@[simp] theorem Tryz.sz22 : szP Tryz.prog 22 = 1 := by kernel_rfl
@[simp] theorem Tryz.row22 : isRowT Tryz.prog 22 = false := by kernel_rfl
@[simp] theorem Tryz.inf22 : infP Tryz.prog 22 = true := by kernel_rfl
@[simp] theorem Tryz.und22 : undP Tryz.prog 22 = true := by kernel_rfl
@[simp] theorem Tryz.ifc22 : ifcP Tryz.prog 22 = false := by kernel_rfl
@[simp] theorem Tryz.by22 : bytesP Tryz.prog 22 = 24 := by kernel_rfl
@[simp] theorem Tryz.zero22 : zeroP Tryz.prog 22 = some (.slice none 0 0) := by kernel_rfl
@[simp] theorem Tryz.zok22 : zokP Tryz.prog 22 = true := by kernel_rfl
@[simp] theorem Tryz.zsz22 : zszP Tryz.prog 22 = true := zsz_of _ _ Tryz.zok22
@[simp] theorem Tryz.zbox22 : zbox Tryz.prog 22 = some ([.sl []], [none, some none]) := by kernel_rfl
@[simp] theorem Tryz.elem22 : elemP Tryz.prog 22 = some 63 := by kernel_rfl
@[simp] theorem Tryz.sz23 : szP Tryz.prog 23 = 1 := by kernel_rfl
@[simp] theorem Tryz.row23 : isRowT Tryz.prog 23 = false := by kernel_rfl
@[simp] theorem Tryz.inf23 : infP Tryz.prog 23 = true := by kernel_rfl
@[simp] theorem Tryz.und23 : undP Tryz.prog 23 = true := by kernel_rfl
@[simp] theorem Tryz.ifc23 : ifcP Tryz.prog 23 = false := by kernel_rfl
@[simp] theorem Tryz.by23 : bytesP Tryz.prog 23 = 24 := by kernel_rfl
@[simp] theorem Tryz.zero23 : zeroP Tryz.prog 23 = some (.slice none 0 0) := by kernel_rfl
@[simp] theorem Tryz.zok23 : zokP Tryz.prog 23 = true := by kernel_rfl
@[simp] theorem Tryz.zbox23 : zbox Tryz.prog 23 = some ([.sl []], [none, some none]) := by kernel_rfl
@[simp] theorem Tryz.elem23 : elemP Tryz.prog 23 = some 22 := by kernel_rfl
@[simp] theorem Tryz.sz25 : szP Tryz.prog 25 = 2 := by kernel_rfl
@[simp] theorem Tryz.row25 : isRowT Tryz.prog 25 = true := by kernel_rfl
@[simp] theorem Tryz.inf25 : infP Tryz.prog 25 = true := by kernel_rfl
@[simp] theorem Tryz.und25 : undP Tryz.prog 25 = true := by kernel_rfl
@[simp] theorem Tryz.ifc25 : ifcP Tryz.prog 25 = false := by kernel_rfl
@[simp] theorem Tryz.zpl25 : zplP Tryz.prog 25 = some ([.slice none 0 0, .slice none 0 0], [(0, 1), (1, 1)]) := by kernel_rfl
@[simp] theorem Tryz.fld25_0 : fldP Tryz.prog 25 0 = some (0, 22) := by kernel_rfl
@[simp] theorem Tryz.fld25_1 : fldP Tryz.prog 25 1 = some (1, 23) := by kernel_rfl
@[simp] theorem Tryz.by25 : bytesP Tryz.prog 25 = 48 := by kernel_rfl
@[simp] theorem Tryz.zero25 : zeroP Tryz.prog 25 = some (.agg #[.slice none 0 0, .slice none 0 0]) := by kernel_rfl
@[simp] theorem Tryz.zok25 : zokP Tryz.prog 25 = true := by kernel_rfl
@[simp] theorem Tryz.zbox25 : zbox Tryz.prog 25 = some ([.sl [], .sl []], [none, some none, some none]) := by kernel_rfl
@[simp] theorem Tryz.sz28 : szP Tryz.prog 28 = 1 := by kernel_rfl
@[simp] theorem Tryz.row28 : isRowT Tryz.prog 28 = false := by kernel_rfl
@[simp] theorem Tryz.inf28 : infP Tryz.prog 28 = true := by kernel_rfl
@[simp] theorem Tryz.und28 : undP Tryz.prog 28 = true := by kernel_rfl
@[simp] theorem Tryz.ifc28 : ifcP Tryz.prog 28 = false := by kernel_rfl
@[simp] theorem Tryz.by28 : bytesP Tryz.prog 28 = 24 := by kernel_rfl
@[simp] theorem Tryz.zero28 : zeroP Tryz.prog 28 = some (.slice none 0 0) := by kernel_rfl
@[simp] theorem Tryz.zok28 : zokP Tryz.prog 28 = true := by kernel_rfl
@[simp] theorem Tryz.zbox28 : zbox Tryz.prog 28 = some ([.sl []], [none, some none]) := by kernel_rfl
@[simp] theorem Tryz.elem28 : elemP Tryz.prog 28 = some 66 := by kernel_rfl
@[simp] theorem Tryz.sz30 : szP Tryz.prog 30 = 1 := by kernel_rfl
@[simp] theorem Tryz.row30 : isRowT Tryz.prog 30 = true := by kernel_rfl
@[simp] theorem Tryz.inf30 : infP Tryz.prog 30 = true := by kernel_rfl
@[simp] theorem Tryz.und30 : undP Tryz.prog 30 = true := by kernel_rfl
@[simp] theorem Tryz.ifc30 : ifcP Tryz.prog 30 = false := by kernel_rfl
@[simp] theorem Tryz.zpl30 : zplP Tryz.prog 30 = some ([.slice none 0 0], [(0, 1)]) := by kernel_rfl
@[simp] theorem Tryz.fld30_0 : fldP Tryz.prog 30 0 = some (0, 28) := by kernel_rfl
@[simp] theorem Tryz.by30 : bytesP Tryz.prog 30 = 24 := by kernel_rfl
@[simp] theorem Tryz.zero30 : zeroP Tryz.prog 30 = some (.agg #[.slice none 0 0]) := by kernel_rfl
@[simp] theorem Tryz.zok30 : zokP Tryz.prog 30 = true := by kernel_rfl
@[simp] theorem Tryz.zbox30 : zbox Tryz.prog 30 = some ([.sl []], [none, some none]) := by kernel_rfl
@[simp] theorem Tryz.sz31 : szP Tryz.prog 31 = 1 := by kernel_rfl
@[simp] theorem Tryz.row31 : isRowT Tryz.prog 31 = false := by kernel_rfl
@[simp] theorem Tryz.inf31 : infP Tryz.prog 31 = true := by kernel_rfl
@[simp] theorem Tryz.und31 : undP Tryz.prog 31 = true := by kernel_rfl
@[simp] theorem Tryz.ifc31 : ifcP Tryz.prog 31 = false := by kernel_rfl
@[simp] theorem Tryz.by31 : bytesP Tryz.prog 31 = 24 := by kernel_rfl
@[simp] theorem Tryz.zero31 : zeroP Tryz.prog 31 = some (.slice none 0 0) := by kernel_rfl
@[simp] theorem Tryz.zok31 : zokP Tryz.prog 31 = true := by kernel_rfl
@[simp] theorem Tryz.zbox31 : zbox Tryz.prog 31 = some ([.sl []], [none, some none]) := by kernel_rfl
@[simp] theorem Tryz.elem31 : elemP Tryz.prog 31 = some 3 := by kernel_rfl
@[simp] theorem Tryz.sz32 : szP Tryz.prog 32 = 1 := by kernel_rfl
@[simp] theorem Tryz.row32 : isRowT Tryz.prog 32 = false := by kernel_rfl
@[simp] theorem Tryz.inf32 : infP Tryz.prog 32 = true := by kernel_rfl
@[simp] theorem Tryz.und32 : undP Tryz.prog 32 = true := by kernel_rfl
@[simp] theorem Tryz.kind32 : kindP Tryz.prog 32 = some .i64 := by kernel_rfl
@[simp] theorem Tryz.ifc32 : ifcP Tryz.prog 32 = false := by kernel_rfl
@[simp] theorem Tryz.by32 : bytesP Tryz.prog 32 = 8 := by kernel_rfl
@[simp] theorem Tryz.zero32 : zeroP Tryz.prog 32 = some (.int .i64 0) := by kernel_rfl
@[simp] theorem Tryz.zok32 : zokP Tryz.prog 32 = true := by kernel_rfl
@[simp] theorem Tryz.zbox32 : zbox Tryz.prog 32 = some ([.imm (.int .i64 0)], [none, none]) := by kernel_rfl
@[simp] theorem Tryz.sz36 : szP Tryz.prog 36 = 1 := by kernel_rfl
@[simp] theorem Tryz.row36 : isRowT Tryz.prog 36 = false := by kernel_rfl
@[simp] theorem Tryz.inf36 : infP Tryz.prog 36 = true := by kernel_rfl
@[simp] theorem Tryz.und36 : undP Tryz.prog 36 = true := by kernel_rfl
@[simp] theorem Tryz.kind36 : kindP Tryz.prog 36 = some .i64 := by kernel_rfl
@[simp] theorem Tryz.ifc36 : ifcP Tryz.prog 36 = false := by kernel_rfl
@[simp] theorem Tryz.by36 : bytesP Tryz.prog 36 = 8 := by kernel_rfl
@[simp] theorem Tryz.zero36 : zeroP Tryz.prog 36 = some (.int .i64 0) := by kernel_rfl
@[simp] theorem Tryz.zok36 : zokP Tryz.prog 36 = true := by kernel_rfl
@[simp] theorem Tryz.zbox36 : zbox Tryz.prog 36 = some ([.imm (.int .i64 0)], [none, none]) := by kernel_rfl
@[simp] theorem Tryz.sz44 : szP Tryz.prog 44 = 1 := by kernel_rfl
@[simp] theorem Tryz.row44 : isRowT Tryz.prog 44 = false := by kernel_rfl
@[simp] theorem Tryz.inf44 : infP Tryz.prog 44 = true := by kernel_rfl
@[simp] theorem Tryz.und44 : undP Tryz.prog 44 = true := by kernel_rfl
@[simp] theorem Tryz.ifc44 : ifcP Tryz.prog 44 = true := by kernel_rfl
@[simp] theorem Tryz.by44 : bytesP Tryz.prog 44 = 16 := by kernel_rfl
@[simp] theorem Tryz.zero44 : zeroP Tryz.prog 44 = some (.nilIface) := by kernel_rfl
@[simp] theorem Tryz.zok44 : zokP Tryz.prog 44 = true := by kernel_rfl
@[simp] theorem Tryz.zbox44 : zbox Tryz.prog 44 = some ([.imm (.nilIface)], [none, none]) := by kernel_rfl
@[simp] theorem Tryz.sz46 : szP Tryz.prog 46 = 1 := by kernel_rfl
@[simp] theorem Tryz.row46 : isRowT Tryz.prog 46 = false := by kernel_rfl
@[simp] theorem Tryz.inf46 : infP Tryz.prog 46 = true := by kernel_rfl
@[simp] theorem Tryz.und46 : undP Tryz.prog 46 = true := by kernel_rfl
@[simp] theorem Tryz.ifc46 : ifcP Tryz.prog 46 = false := by kernel_rfl
@[simp] theorem Tryz.by46 : bytesP Tryz.prog 46 = 24 := by kernel_rfl
@[simp] theorem Tryz.zero46 : zeroP Tryz.prog 46 = some (.slice none 0 0) := by kernel_rfl
@[simp] theorem Tryz.zok46 : zokP Tryz.prog 46 = true := by kernel_rfl
@[simp] theorem Tryz.zbox46 : zbox Tryz.prog 46 = some ([.sl []], [none, some none]) := by kernel_rfl
@[simp] theorem Tryz.elem46 : elemP Tryz.prog 46 = some 129 := by kernel_rfl
@[simp] theorem Tryz.sz53 : szP Tryz.prog 53 = 1 := by kernel_rfl
@[simp] theorem Tryz.row53 : isRowT Tryz.prog 53 = false := by kernel_rfl
@[simp] theorem Tryz.inf53 : infP Tryz.prog 53 = true := by kernel_rfl
@[simp] theorem Tryz.und53 : undP Tryz.prog 53 = true := by kernel_rfl
@[simp] theorem Tryz.kind53 : kindP Tryz.prog 53 = some .i64 := by kernel_rfl
@[simp] theorem Tryz.ifc53 : ifcP Tryz.prog 53 = false := by kernel_rfl
@[simp] theorem Tryz.by53 : bytesP Tryz.prog 53 = 8 := by kernel_rfl
@[simp] theorem Tryz.zero53 : zeroP Tryz.prog 53 = some (.int .i64 0) := by kernel_rfl
@[simp] theorem Tryz.zok53 : zokP Tryz.prog 53 = true := by kernel_rfl
@[simp] theorem Tryz.zbox53 : zbox Tryz.prog 53 = some ([.imm (.int .i64 0)], [none, none]) := by kernel_rfl
@[simp] theorem Tryz.sz54 : szP Tryz.prog 54 = 1 := by kernel_rfl
@[simp] theorem Tryz.row54 : isRowT Tryz.prog 54 = false := by kernel_rfl
@[simp] theorem Tryz.inf54 : infP Tryz.prog 54 = true := by kernel_rfl
@[simp] theorem Tryz.und54 : undP Tryz.prog 54 = true := by kernel_rfl
@[simp] theorem Tryz.kind54 : kindP Tryz.prog 54 = some .i64 := by kernel_rfl
@[simp] theorem Tryz.ifc54 : ifcP Tryz.prog 54 = false := by kernel_rfl
@[simp] theorem Tryz.by54 : bytesP Tryz.prog 54 = 8 := by kernel_rfl
@[simp] theorem Tryz.zero54 : zeroP Tryz.prog 54 = some (.int .i64 0) := by kernel_rfl
@[simp] theorem Tryz.zok54 : zokP Tryz.prog 54 = true := by kernel_rfl
@[simp] theorem Tryz.zbox54 : zbox Tryz.prog 54 = some ([.imm (.int .i64 0)], [none, none]) := by kernel_rfl
@[simp] theorem Tryz.sz55 : szP Tryz.prog 55 = 1 := by kernel_rfl
@[simp] theorem Tryz.row55 : isRowT Tryz.prog 55 = false := by kernel_rfl
@[simp] theorem Tryz.inf55 : infP Tryz.prog 55 = true := by kernel_rfl
@[simp] theorem Tryz.und55 : undP Tryz.prog 55 = true := by kernel_rfl
@[simp] theorem Tryz.kind55 : kindP Tryz.prog 55 = some .i64 := by kernel_rfl
@[simp] theorem Tryz.ifc55 : ifcP Tryz.prog 55 = false := by kernel_rfl
@[simp] theorem Tryz.by55 : bytesP Tryz.prog 55 = 8 := by kernel_rfl
@[simp] theorem Tryz.zero55 : zeroP Tryz.prog 55 = some (.int .i64 0) := by kernel_rfl
@[simp] theorem Tryz.zok55 : zokP Tryz.prog 55 = true := by kernel_rfl
@[simp] theorem Tryz.zbox55 : zbox Tryz.prog 55 = some ([.imm (.int .i64 0)], [none, none]) := by kernel_rfl
@[simp] theorem Tryz.sz57 : szP Tryz.prog 57 = 4 := by kernel_rfl
@[simp] theorem Tryz.row57 : isRowT Tryz.prog 57 = true := by kernel_rfl
@[simp] theorem Tryz.inf57 : infP Tryz.prog 57 = true := by kernel_rfl
@[simp] theorem Tryz.und57 : undP Tryz.prog 57 = true := by kernel_rfl
@[simp] theorem Tryz.ifc57 : ifcP Tryz.prog 57 = false := by kernel_rfl
@[simp] theorem Tryz.eq57 : eqTP Tryz.prog 57 = true := by kernel_rfl
@[simp] theorem Tryz.typs57 : typsP Tryz.prog 57 = [55, 36, 9, 3] := by kernel_rfl
@[simp] theorem Tryz.zpl57 : zplP Tryz.prog 57 = some ([.int .i64 0, .int .i64 0, .string ⟨#[]⟩, .int .i64 0], [(0, 1), (1, 1), (2, 1), (3, 1)]) := by kernel_rfl
@[simp] theorem Tryz.fld57_0 : fldP Tryz.prog 57 0 = some (0, 55) := by kernel_rfl
@[simp] theorem Tryz.fld57_1 : fldP Tryz.prog 57 1 = some (1, 36) := by kernel_rfl
@[simp] theorem Tryz.fld57_2 : fldP Tryz.prog 57 2 = some (2, 9) := by kernel_rfl
@[simp] theorem Tryz.fld57_3 : fldP Tryz.prog 57 3 = some (3, 3) := by kernel_rfl
@[simp] theorem Tryz.by57 : bytesP Tryz.prog 57 = 40 := by kernel_rfl
@[simp] theorem Tryz.zero57 : zeroP Tryz.prog 57 = some (.agg #[.int .i64 0, .int .i64 0, .string ⟨#[]⟩, .int .i64 0]) := by kernel_rfl
@[simp] theorem Tryz.zok57 : zokP Tryz.prog 57 = true := by kernel_rfl
@[simp] theorem Tryz.zbox57 : zbox Tryz.prog 57 = some ([.imm (.int .i64 0), .imm (.int .i64 0), .imm (.string ⟨#[]⟩), .imm (.int .i64 0)], [none, none, none, none, none]) := by kernel_rfl
@[simp] theorem Tryz.sz58 : szP Tryz.prog 58 = 1 := by kernel_rfl
@[simp] theorem Tryz.row58 : isRowT Tryz.prog 58 = false := by kernel_rfl
@[simp] theorem Tryz.inf58 : infP Tryz.prog 58 = true := by kernel_rfl
@[simp] theorem Tryz.und58 : undP Tryz.prog 58 = true := by kernel_rfl
@[simp] theorem Tryz.kind58 : kindP Tryz.prog 58 = some .i64 := by kernel_rfl
@[simp] theorem Tryz.ifc58 : ifcP Tryz.prog 58 = false := by kernel_rfl
@[simp] theorem Tryz.by58 : bytesP Tryz.prog 58 = 8 := by kernel_rfl
@[simp] theorem Tryz.zero58 : zeroP Tryz.prog 58 = some (.int .i64 0) := by kernel_rfl
@[simp] theorem Tryz.zok58 : zokP Tryz.prog 58 = true := by kernel_rfl
@[simp] theorem Tryz.zbox58 : zbox Tryz.prog 58 = some ([.imm (.int .i64 0)], [none, none]) := by kernel_rfl
@[simp] theorem Tryz.sz59 : szP Tryz.prog 59 = 1 := by kernel_rfl
@[simp] theorem Tryz.row59 : isRowT Tryz.prog 59 = false := by kernel_rfl
@[simp] theorem Tryz.inf59 : infP Tryz.prog 59 = true := by kernel_rfl
@[simp] theorem Tryz.und59 : undP Tryz.prog 59 = true := by kernel_rfl
@[simp] theorem Tryz.ifc59 : ifcP Tryz.prog 59 = false := by kernel_rfl
@[simp] theorem Tryz.by59 : bytesP Tryz.prog 59 = 24 := by kernel_rfl
@[simp] theorem Tryz.zero59 : zeroP Tryz.prog 59 = some (.slice none 0 0) := by kernel_rfl
@[simp] theorem Tryz.zok59 : zokP Tryz.prog 59 = true := by kernel_rfl
@[simp] theorem Tryz.zbox59 : zbox Tryz.prog 59 = some ([.sl []], [none, some none]) := by kernel_rfl
@[simp] theorem Tryz.elem59 : elemP Tryz.prog 59 = some 9 := by kernel_rfl
@[simp] theorem Tryz.sz61 : szP Tryz.prog 61 = 16 := by kernel_rfl
@[simp] theorem Tryz.row61 : isRowT Tryz.prog 61 = true := by kernel_rfl
@[simp] theorem Tryz.inf61 : infP Tryz.prog 61 = true := by kernel_rfl
@[simp] theorem Tryz.und61 : undP Tryz.prog 61 = true := by kernel_rfl
@[simp] theorem Tryz.ifc61 : ifcP Tryz.prog 61 = false := by kernel_rfl
@[simp] theorem Tryz.zpl61 : zplP Tryz.prog 61 = some ([.int .i64 0, .int .i64 0, .int .i64 0, .string ⟨#[]⟩, .int .i64 0, .int .i64 0, .int .i64 0, .slice none 0 0, .slice none 0 0, .int .i64 0, .int .i64 0, .string ⟨#[]⟩, .int .i64 0, .int .i64 0, .string ⟨#[]⟩, .int .i64 0], [(0, 1), (1, 4), (5, 1), (6, 1), (7, 1), (8, 1), (9, 4), (13, 1), (14, 1), (15, 1)]) := by kernel_rfl
@[simp] theorem Tryz.fld61_0 : fldP Tryz.prog 61 0 = some (0, 54) := by kernel_rfl
@[simp] theorem Tryz.fld61_1 : fldP Tryz.prog 61 1 = some (1, 57) := by kernel_rfl
@[simp] theorem Tryz.fld61_2 : fldP Tryz.prog 61 2 = some (5, 58) := by kernel_rfl
@[simp] theorem Tryz.fld61_3 : fldP Tryz.prog 61 3 = some (6, 3) := by kernel_rfl
@[simp] theorem Tryz.fld61_4 : fldP Tryz.prog 61 4 = some (7, 59) := by kernel_rfl
@[simp] theorem Tryz.fld61_5 : fldP Tryz.prog 61 5 = some (8, 31) := by kernel_rfl
@[simp] theorem Tryz.fld61_6 : fldP Tryz.prog 61 6 = some (9, 57) := by kernel_rfl
@[simp] theorem Tryz.fld61_7 : fldP Tryz.prog 61 7 = some (13, 36) := by kernel_rfl
@[simp] theorem Tryz.fld61_8 : fldP Tryz.prog 61 8 = some (14, 9) := by kernel_rfl
@[simp] theorem Tryz.fld61_9 : fldP Tryz.prog 61 9 = some (15, 3) := by kernel_rfl
@[simp] theorem Tryz.by61 : bytesP Tryz.prog 61 = 184 := by kernel_rfl
@[simp] theorem Tryz.zero61 : zeroP Tryz.prog 61 = some (.agg #[.int .i64 0, .int .i64 0, .int .i64 0, .string ⟨#[]⟩, .int .i64 0, .int .i64 0, .int .i64 0, .slice none 0 0, .slice none 0 0, .int .i64 0, .int .i64 0, .string ⟨#[]⟩, .int .i64 0, .int .i64 0, .string ⟨#[]⟩, .int .i64 0]) := by kernel_rfl
@[simp] theorem Tryz.zok61 : zokP Tryz.prog 61 = true := by kernel_rfl
@[simp] theorem Tryz.zbox61 : zbox Tryz.prog 61 = some ([.imm (.int .i64 0), .imm (.int .i64 0), .imm (.int .i64 0), .imm (.string ⟨#[]⟩), .imm (.int .i64 0), .imm (.int .i64 0), .imm (.int .i64 0), .sl [], .sl [], .imm (.int .i64 0), .imm (.int .i64 0), .imm (.string ⟨#[]⟩), .imm (.int .i64 0), .imm (.int .i64 0), .imm (.string ⟨#[]⟩), .imm (.int .i64 0)], [none, none, none, none, none, none, none, none, some none, some none, none, none, none, none, none, none, none]) := by kernel_rfl
@[simp] theorem Tryz.sz63 : szP Tryz.prog 63 = 19 := by kernel_rfl
@[simp] theorem Tryz.row63 : isRowT Tryz.prog 63 = true := by kernel_rfl
@[simp] theorem Tryz.inf63 : infP Tryz.prog 63 = true := by kernel_rfl
@[simp] theorem Tryz.und63 : undP Tryz.prog 63 = true := by kernel_rfl
@[simp] theorem Tryz.ifc63 : ifcP Tryz.prog 63 = false := by kernel_rfl
@[simp] theorem Tryz.zpl63 : zplP Tryz.prog 63 = some ([.int .i64 0, .bool false, .int .i64 0, .int .i64 0, .int .i64 0, .string ⟨#[]⟩, .int .i64 0, .int .i64 0, .int .i64 0, .slice none 0 0, .slice none 0 0, .int .i64 0, .int .i64 0, .string ⟨#[]⟩, .int .i64 0, .int .i64 0, .string ⟨#[]⟩, .int .i64 0, .slice none 0 0], [(0, 1), (1, 1), (2, 16), (18, 1)]) := by kernel_rfl
@[simp] theorem Tryz.fld63_0 : fldP Tryz.prog 63 0 = some (0, 53) := by kernel_rfl
@[simp] theorem Tryz.fld63_1 : fldP Tryz.prog 63 1 = some (1, 4) := by kernel_rfl
@[simp] theorem Tryz.fld63_2 : fldP Tryz.prog 63 2 = some (2, 61) := by kernel_rfl
@[simp] theorem Tryz.fld63_3 : fldP Tryz.prog 63 3 = some (18, 31) := by kernel_rfl
@[simp] theorem Tryz.by63 : bytesP Tryz.prog 63 = 224 := by kernel_rfl
@[simp] theorem Tryz.zero63 : zeroP Tryz.prog 63 = some (.agg #[.int .i64 0, .bool false, .int .i64 0, .int .i64 0, .int .i64 0, .string ⟨#[]⟩, .int .i64 0, .int .i64 0, .int .i64 0, .slice none 0 0, .slice none 0 0, .int .i64 0, .int .i64 0, .string ⟨#[]⟩, .int .i64 0, .int .i64 0, .string ⟨#[]⟩, .int .i64 0, .slice none 0 0]) := by kernel_rfl
@[simp] theorem Tryz.zok63 : zokP Tryz.prog 63 = true := by kernel_rfl
@[simp] theorem Tryz.zsz63 : zszP Tryz.prog 63 = true := zsz_of _ _ Tryz.zok63
@[simp] theorem Tryz.zbox63 : zbox Tryz.prog 63 = some ([.imm (.int .i64 0), .imm (.bool false), .imm (.int .i64 0), .imm (.int .i64 0), .imm (.int .i64 0), .imm (.string ⟨#[]⟩), .imm (.int .i64 0), .imm (.int .i64 0), .imm (.int .i64 0), .sl [], .sl [], .imm (.int .i64 0), .imm (.int .i64 0), .imm (.string ⟨#[]⟩), .imm (.int .i64 0), .imm (.int .i64 0), .imm (.string ⟨#[]⟩), .imm (.int .i64 0), .sl []], [none, none, none, none, none, none, none, none, none, none, some none, some none, none, none, none, none, none, none, none, some none]) := by kernel_rfl
@[simp] theorem Tryz.sz64 : szP Tryz.prog 64 = 1 := by kernel_rfl
@[simp] theorem Tryz.row64 : isRowT Tryz.prog 64 = false := by kernel_rfl
@[simp] theorem Tryz.inf64 : infP Tryz.prog 64 = true := by kernel_rfl
@[simp] theorem Tryz.und64 : undP Tryz.prog 64 = true := by kernel_rfl
@[simp] theorem Tryz.kind64 : kindP Tryz.prog 64 = some .i64 := by kernel_rfl
@[simp] theorem Tryz.ifc64 : ifcP Tryz.prog 64 = false := by kernel_rfl
@[simp] theorem Tryz.by64 : bytesP Tryz.prog 64 = 8 := by kernel_rfl
@[simp] theorem Tryz.zero64 : zeroP Tryz.prog 64 = some (.int .i64 0) := by kernel_rfl
@[simp] theorem Tryz.zok64 : zokP Tryz.prog 64 = true := by kernel_rfl
@[simp] theorem Tryz.zbox64 : zbox Tryz.prog 64 = some ([.imm (.int .i64 0)], [none, none]) := by kernel_rfl
@[simp] theorem Tryz.sz66 : szP Tryz.prog 66 = 4 := by kernel_rfl
@[simp] theorem Tryz.row66 : isRowT Tryz.prog 66 = true := by kernel_rfl
@[simp] theorem Tryz.inf66 : infP Tryz.prog 66 = true := by kernel_rfl
@[simp] theorem Tryz.und66 : undP Tryz.prog 66 = true := by kernel_rfl
@[simp] theorem Tryz.ifc66 : ifcP Tryz.prog 66 = false := by kernel_rfl
@[simp] theorem Tryz.zpl66 : zplP Tryz.prog 66 = some ([.int .i64 0, .string ⟨#[]⟩, .int .i64 0, .slice none 0 0], [(0, 1), (1, 1), (2, 1), (3, 1)]) := by kernel_rfl
@[simp] theorem Tryz.fld66_0 : fldP Tryz.prog 66 0 = some (0, 64) := by kernel_rfl
@[simp] theorem Tryz.fld66_1 : fldP Tryz.prog 66 1 = some (1, 9) := by kernel_rfl
@[simp] theorem Tryz.fld66_2 : fldP Tryz.prog 66 2 = some (2, 3) := by kernel_rfl
@[simp] theorem Tryz.fld66_3 : fldP Tryz.prog 66 3 = some (3, 31) := by kernel_rfl
@[simp] theorem Tryz.by66 : bytesP Tryz.prog 66 = 56 := by kernel_rfl
@[simp] theorem Tryz.zero66 : zeroP Tryz.prog 66 = some (.agg #[.int .i64 0, .string ⟨#[]⟩, .int .i64 0, .slice none 0 0]) := by kernel_rfl
@[simp] theorem Tryz.zok66 : zokP Tryz.prog 66 = true := by kernel_rfl
@[simp] theorem Tryz.zbox66 : zbox Tryz.prog 66 = some ([.imm (.int .i64 0), .imm (.string ⟨#[]⟩), .imm (.int .i64 0), .sl []], [none, none, none, none, some none]) := by kernel_rfl
@[simp] theorem Tryz.sz71 : szP Tryz.prog 71 = 1 := by kernel_rfl
@[simp] theorem Tryz.row71 : isRowT Tryz.prog 71 = false := by kernel_rfl
@[simp] theorem Tryz.inf71 : infP Tryz.prog 71 = true := by kernel_rfl
@[simp] theorem Tryz.und71 : undP Tryz.prog 71 = true := by kernel_rfl
@[simp] theorem Tryz.ifc71 : ifcP Tryz.prog 71 = false := by kernel_rfl
@[simp] theorem Tryz.by71 : bytesP Tryz.prog 71 = 24 := by kernel_rfl
@[simp] theorem Tryz.zero71 : zeroP Tryz.prog 71 = some (.slice none 0 0) := by kernel_rfl
@[simp] theorem Tryz.zok71 : zokP Tryz.prog 71 = true := by kernel_rfl
@[simp] theorem Tryz.zbox71 : zbox Tryz.prog 71 = some ([.sl []], [none, some none]) := by kernel_rfl
@[simp] theorem Tryz.elem71 : elemP Tryz.prog 71 = some 31 := by kernel_rfl
@[simp] theorem Tryz.sz73 : szP Tryz.prog 73 = 1 := by kernel_rfl
@[simp] theorem Tryz.row73 : isRowT Tryz.prog 73 = false := by kernel_rfl
@[simp] theorem Tryz.inf73 : infP Tryz.prog 73 = true := by kernel_rfl
@[simp] theorem Tryz.und73 : undP Tryz.prog 73 = true := by kernel_rfl
@[simp] theorem Tryz.ifc73 : ifcP Tryz.prog 73 = false := by kernel_rfl
@[simp] theorem Tryz.by73 : bytesP Tryz.prog 73 = 24 := by kernel_rfl
@[simp] theorem Tryz.zero73 : zeroP Tryz.prog 73 = some (.slice none 0 0) := by kernel_rfl
@[simp] theorem Tryz.zok73 : zokP Tryz.prog 73 = true := by kernel_rfl
@[simp] theorem Tryz.zbox73 : zbox Tryz.prog 73 = some ([.sl []], [none, some none]) := by kernel_rfl
@[simp] theorem Tryz.elem73 : elemP Tryz.prog 73 = some 59 := by kernel_rfl
@[simp] theorem Tryz.sz75 : szP Tryz.prog 75 = 3 := by kernel_rfl
@[simp] theorem Tryz.row75 : isRowT Tryz.prog 75 = true := by kernel_rfl
@[simp] theorem Tryz.inf75 : infP Tryz.prog 75 = true := by kernel_rfl
@[simp] theorem Tryz.und75 : undP Tryz.prog 75 = true := by kernel_rfl
@[simp] theorem Tryz.ifc75 : ifcP Tryz.prog 75 = false := by kernel_rfl
@[simp] theorem Tryz.zpl75 : zplP Tryz.prog 75 = some ([.slice none 0 0, .slice none 0 0, .slice none 0 0], [(0, 1), (1, 1), (2, 1)]) := by kernel_rfl
@[simp] theorem Tryz.fld75_0 : fldP Tryz.prog 75 0 = some (0, 23) := by kernel_rfl
@[simp] theorem Tryz.fld75_1 : fldP Tryz.prog 75 1 = some (1, 73) := by kernel_rfl
@[simp] theorem Tryz.fld75_2 : fldP Tryz.prog 75 2 = some (2, 71) := by kernel_rfl
@[simp] theorem Tryz.by75 : bytesP Tryz.prog 75 = 72 := by kernel_rfl
@[simp] theorem Tryz.zero75 : zeroP Tryz.prog 75 = some (.agg #[.slice none 0 0, .slice none 0 0, .slice none 0 0]) := by kernel_rfl
@[simp] theorem Tryz.zok75 : zokP Tryz.prog 75 = true := by kernel_rfl
@[simp] theorem Tryz.zbox75 : zbox Tryz.prog 75 = some ([.sl [], .sl [], .sl []], [none, some none, some none, some none]) := by kernel_rfl
@[simp] theorem Tryz.sz78 : szP Tryz.prog 78 = 1 := by kernel_rfl
@[simp] theorem Tryz.row78 : isRowT Tryz.prog 78 = false := by kernel_rfl
@[simp] theorem Tryz.inf78 : infP Tryz.prog 78 = true := by kernel_rfl
@[simp] theorem Tryz.und78 : undP Tryz.prog 78 = true := by kernel_rfl
@[simp] theorem Tryz.ifc78 : ifcP Tryz.prog 78 = false := by kernel_rfl
@[simp] theorem Tryz.by78 : bytesP Tryz.prog 78 = 24 := by kernel_rfl
@[simp] theorem Tryz.zero78 : zeroP Tryz.prog 78 = some (.slice none 0 0) := by kernel_rfl
@[simp] theorem Tryz.zok78 : zokP Tryz.prog 78 = true := by kernel_rfl
@[simp] theorem Tryz.zbox78 : zbox Tryz.prog 78 = some ([.sl []], [none, some none]) := by kernel_rfl
@[simp] theorem Tryz.elem78 : elemP Tryz.prog 78 = some 325 := by kernel_rfl
@[simp] theorem Tryz.sz79 : szP Tryz.prog 79 = 1 := by kernel_rfl
@[simp] theorem Tryz.row79 : isRowT Tryz.prog 79 = false := by kernel_rfl
@[simp] theorem Tryz.inf79 : infP Tryz.prog 79 = true := by kernel_rfl
@[simp] theorem Tryz.und79 : undP Tryz.prog 79 = true := by kernel_rfl
@[simp] theorem Tryz.ifc79 : ifcP Tryz.prog 79 = false := by kernel_rfl
@[simp] theorem Tryz.by79 : bytesP Tryz.prog 79 = 24 := by kernel_rfl
@[simp] theorem Tryz.zero79 : zeroP Tryz.prog 79 = some (.slice none 0 0) := by kernel_rfl
@[simp] theorem Tryz.zok79 : zokP Tryz.prog 79 = true := by kernel_rfl
@[simp] theorem Tryz.zbox79 : zbox Tryz.prog 79 = some ([.sl []], [none, some none]) := by kernel_rfl
@[simp] theorem Tryz.elem79 : elemP Tryz.prog 79 = some 349 := by kernel_rfl
@[simp] theorem Tryz.sz80 : szP Tryz.prog 80 = 1 := by kernel_rfl
@[simp] theorem Tryz.row80 : isRowT Tryz.prog 80 = false := by kernel_rfl
@[simp] theorem Tryz.inf80 : infP Tryz.prog 80 = true := by kernel_rfl
@[simp] theorem Tryz.und80 : undP Tryz.prog 80 = true := by kernel_rfl
@[simp] theorem Tryz.ifc80 : ifcP Tryz.prog 80 = false := by kernel_rfl
@[simp] theorem Tryz.by80 : bytesP Tryz.prog 80 = 24 := by kernel_rfl
@[simp] theorem Tryz.zero80 : zeroP Tryz.prog 80 = some (.slice none 0 0) := by kernel_rfl
@[simp] theorem Tryz.zok80 : zokP Tryz.prog 80 = true := by kernel_rfl
@[simp] theorem Tryz.zbox80 : zbox Tryz.prog 80 = some ([.sl []], [none, some none]) := by kernel_rfl
@[simp] theorem Tryz.elem80 : elemP Tryz.prog 80 = some 352 := by kernel_rfl
@[simp] theorem Tryz.sz81 : szP Tryz.prog 81 = 1 := by kernel_rfl
@[simp] theorem Tryz.row81 : isRowT Tryz.prog 81 = false := by kernel_rfl
@[simp] theorem Tryz.inf81 : infP Tryz.prog 81 = true := by kernel_rfl
@[simp] theorem Tryz.und81 : undP Tryz.prog 81 = true := by kernel_rfl
@[simp] theorem Tryz.ifc81 : ifcP Tryz.prog 81 = false := by kernel_rfl
@[simp] theorem Tryz.by81 : bytesP Tryz.prog 81 = 24 := by kernel_rfl
@[simp] theorem Tryz.zero81 : zeroP Tryz.prog 81 = some (.slice none 0 0) := by kernel_rfl
@[simp] theorem Tryz.zok81 : zokP Tryz.prog 81 = true := by kernel_rfl
@[simp] theorem Tryz.zbox81 : zbox Tryz.prog 81 = some ([.sl []], [none, some none]) := by kernel_rfl
@[simp] theorem Tryz.elem81 : elemP Tryz.prog 81 = some 394 := by kernel_rfl
@[simp] theorem Tryz.sz82 : szP Tryz.prog 82 = 1 := by kernel_rfl
@[simp] theorem Tryz.row82 : isRowT Tryz.prog 82 = false := by kernel_rfl
@[simp] theorem Tryz.inf82 : infP Tryz.prog 82 = true := by kernel_rfl
@[simp] theorem Tryz.und82 : undP Tryz.prog 82 = true := by kernel_rfl
@[simp] theorem Tryz.ifc82 : ifcP Tryz.prog 82 = false := by kernel_rfl
@[simp] theorem Tryz.by82 : bytesP Tryz.prog 82 = 24 := by kernel_rfl
@[simp] theorem Tryz.zero82 : zeroP Tryz.prog 82 = some (.slice none 0 0) := by kernel_rfl
@[simp] theorem Tryz.zok82 : zokP Tryz.prog 82 = true := by kernel_rfl
@[simp] theorem Tryz.zbox82 : zbox Tryz.prog 82 = some ([.sl []], [none, some none]) := by kernel_rfl
@[simp] theorem Tryz.elem82 : elemP Tryz.prog 82 = some 396 := by kernel_rfl
@[simp] theorem Tryz.sz84 : szP Tryz.prog 84 = 8 := by kernel_rfl
@[simp] theorem Tryz.row84 : isRowT Tryz.prog 84 = true := by kernel_rfl
@[simp] theorem Tryz.inf84 : infP Tryz.prog 84 = true := by kernel_rfl
@[simp] theorem Tryz.und84 : undP Tryz.prog 84 = true := by kernel_rfl
@[simp] theorem Tryz.ifc84 : ifcP Tryz.prog 84 = false := by kernel_rfl
@[simp] theorem Tryz.zpl84 : zplP Tryz.prog 84 = some ([.string ⟨#[]⟩, .slice none 0 0, .slice none 0 0, .slice none 0 0, .string ⟨#[]⟩, .slice none 0 0, .slice none 0 0, .int .i64 0], [(0, 1), (1, 1), (2, 1), (3, 1), (4, 1), (5, 1), (6, 1), (7, 1)]) := by kernel_rfl
@[simp] theorem Tryz.fld84_0 : fldP Tryz.prog 84 0 = some (0, 9) := by kernel_rfl
@[simp] theorem Tryz.fld84_1 : fldP Tryz.prog 84 1 = some (1, 78) := by kernel_rfl
@[simp] theorem Tryz.fld84_2 : fldP Tryz.prog 84 2 = some (2, 79) := by kernel_rfl
@[simp] theorem Tryz.fld84_3 : fldP Tryz.prog 84 3 = some (3, 80) := by kernel_rfl
@[simp] theorem Tryz.fld84_4 : fldP Tryz.prog 84 4 = some (4, 9) := by kernel_rfl
@[simp] theorem Tryz.fld84_5 : fldP Tryz.prog 84 5 = some (5, 81) := by kernel_rfl
@[simp] theorem Tryz.fld84_6 : fldP Tryz.prog 84 6 = some (6, 82) := by kernel_rfl
@[simp] theorem Tryz.fld84_7 : fldP Tryz.prog 84 7 = some (7, 3) := by kernel_rfl
@[simp] theorem Tryz.by84 : bytesP Tryz.prog 84 = 160 := by kernel_rfl
@[simp] theorem Tryz.zero84 : zeroP Tryz.prog 84 = some (.agg #[.string ⟨#[]⟩, .slice none 0 0, .slice none 0 0, .slice none 0 0, .string ⟨#[]⟩, .slice none 0 0, .slice none 0 0, .int .i64 0]) := by kernel_rfl
@[simp] theorem Tryz.zok84 : zokP Tryz.prog 84 = true := by kernel_rfl
@[simp] theorem Tryz.zbox84 : zbox Tryz.prog 84 = some ([.imm (.string ⟨#[]⟩), .sl [], .sl [], .sl [], .imm (.string ⟨#[]⟩), .sl [], .sl [], .imm (.int .i64 0)], [none, none, some none, some none, some none, none, some none, some none, none]) := by kernel_rfl
@[simp] theorem Tryz.sz92 : szP Tryz.prog 92 = 1 := by kernel_rfl
@[simp] theorem Tryz.row92 : isRowT Tryz.prog 92 = false := by kernel_rfl
@[simp] theorem Tryz.inf92 : infP Tryz.prog 92 = true := by kernel_rfl
@[simp] theorem Tryz.und92 : undP Tryz.prog 92 = true := by kernel_rfl
@[simp] theorem Tryz.ptr92 : ptrP Tryz.prog 92 = true := by kernel_rfl
@[simp] theorem Tryz.ifc92 : ifcP Tryz.prog 92 = false := by kernel_rfl
@[simp] theorem Tryz.by92 : bytesP Tryz.prog 92 = 8 := by kernel_rfl
@[simp] theorem Tryz.zero92 : zeroP Tryz.prog 92 = some (.pointer none) := by kernel_rfl
@[simp] theorem Tryz.zok92 : zokP Tryz.prog 92 = true := by kernel_rfl
@[simp] theorem Tryz.zbox92 : zbox Tryz.prog 92 = some ([.imm (.pointer none)], [none, none]) := by kernel_rfl
@[simp] theorem Tryz.sz94 : szP Tryz.prog 94 = 2 := by kernel_rfl
@[simp] theorem Tryz.row94 : isRowT Tryz.prog 94 = true := by kernel_rfl
@[simp] theorem Tryz.inf94 : infP Tryz.prog 94 = true := by kernel_rfl
@[simp] theorem Tryz.und94 : undP Tryz.prog 94 = true := by kernel_rfl
@[simp] theorem Tryz.ifc94 : ifcP Tryz.prog 94 = false := by kernel_rfl
@[simp] theorem Tryz.eq94 : eqTP Tryz.prog 94 = true := by kernel_rfl
@[simp] theorem Tryz.typs94 : typsP Tryz.prog 94 = [3, 4] := by kernel_rfl
@[simp] theorem Tryz.zpl94 : zplP Tryz.prog 94 = some ([.int .i64 0, .bool false], [(0, 1), (1, 1)]) := by kernel_rfl
@[simp] theorem Tryz.fld94_0 : fldP Tryz.prog 94 0 = some (0, 3) := by kernel_rfl
@[simp] theorem Tryz.fld94_1 : fldP Tryz.prog 94 1 = some (1, 4) := by kernel_rfl
@[simp] theorem Tryz.by94 : bytesP Tryz.prog 94 = 16 := by kernel_rfl
@[simp] theorem Tryz.zero94 : zeroP Tryz.prog 94 = some (.agg #[.int .i64 0, .bool false]) := by kernel_rfl
@[simp] theorem Tryz.zok94 : zokP Tryz.prog 94 = true := by kernel_rfl
@[simp] theorem Tryz.zbox94 : zbox Tryz.prog 94 = some ([.imm (.int .i64 0), .imm (.bool false)], [none, none, none]) := by kernel_rfl
@[simp] theorem Tryz.sz96 : szP Tryz.prog 96 = 1 := by kernel_rfl
@[simp] theorem Tryz.row96 : isRowT Tryz.prog 96 = false := by kernel_rfl
@[simp] theorem Tryz.inf96 : infP Tryz.prog 96 = true := by kernel_rfl
@[simp] theorem Tryz.und96 : undP Tryz.prog 96 = true := by kernel_rfl
@[simp] theorem Tryz.ptr96 : ptrP Tryz.prog 96 = true := by kernel_rfl
@[simp] theorem Tryz.ifc96 : ifcP Tryz.prog 96 = false := by kernel_rfl
@[simp] theorem Tryz.by96 : bytesP Tryz.prog 96 = 8 := by kernel_rfl
@[simp] theorem Tryz.zero96 : zeroP Tryz.prog 96 = some (.pointer none) := by kernel_rfl
@[simp] theorem Tryz.zok96 : zokP Tryz.prog 96 = true := by kernel_rfl
@[simp] theorem Tryz.zbox96 : zbox Tryz.prog 96 = some ([.imm (.pointer none)], [none, none]) := by kernel_rfl
@[simp] theorem Tryz.sz98 : szP Tryz.prog 98 = 1 := by kernel_rfl
@[simp] theorem Tryz.row98 : isRowT Tryz.prog 98 = true := by kernel_rfl
@[simp] theorem Tryz.inf98 : infP Tryz.prog 98 = true := by kernel_rfl
@[simp] theorem Tryz.und98 : undP Tryz.prog 98 = true := by kernel_rfl
@[simp] theorem Tryz.ifc98 : ifcP Tryz.prog 98 = false := by kernel_rfl
@[simp] theorem Tryz.zpl98 : zplP Tryz.prog 98 = some ([.slice none 0 0], [(0, 1)]) := by kernel_rfl
@[simp] theorem Tryz.fld98_0 : fldP Tryz.prog 98 0 = some (0, 28) := by kernel_rfl
@[simp] theorem Tryz.by98 : bytesP Tryz.prog 98 = 24 := by kernel_rfl
@[simp] theorem Tryz.zero98 : zeroP Tryz.prog 98 = some (.agg #[.slice none 0 0]) := by kernel_rfl
@[simp] theorem Tryz.zok98 : zokP Tryz.prog 98 = true := by kernel_rfl
@[simp] theorem Tryz.zbox98 : zbox Tryz.prog 98 = some ([.sl []], [none, some none]) := by kernel_rfl
@[simp] theorem Tryz.sz99 : szP Tryz.prog 99 = 1 := by kernel_rfl
@[simp] theorem Tryz.row99 : isRowT Tryz.prog 99 = false := by kernel_rfl
@[simp] theorem Tryz.inf99 : infP Tryz.prog 99 = true := by kernel_rfl
@[simp] theorem Tryz.und99 : undP Tryz.prog 99 = true := by kernel_rfl
@[simp] theorem Tryz.ptr99 : ptrP Tryz.prog 99 = true := by kernel_rfl
@[simp] theorem Tryz.ifc99 : ifcP Tryz.prog 99 = false := by kernel_rfl
@[simp] theorem Tryz.by99 : bytesP Tryz.prog 99 = 8 := by kernel_rfl
@[simp] theorem Tryz.zero99 : zeroP Tryz.prog 99 = some (.pointer none) := by kernel_rfl
@[simp] theorem Tryz.zok99 : zokP Tryz.prog 99 = true := by kernel_rfl
@[simp] theorem Tryz.zsz99 : zszP Tryz.prog 99 = true := zsz_of _ _ Tryz.zok99
@[simp] theorem Tryz.zbox99 : zbox Tryz.prog 99 = some ([.imm (.pointer none)], [none, none]) := by kernel_rfl
@[simp] theorem Tryz.sz101 : szP Tryz.prog 101 = 1 := by kernel_rfl
@[simp] theorem Tryz.row101 : isRowT Tryz.prog 101 = false := by kernel_rfl
@[simp] theorem Tryz.inf101 : infP Tryz.prog 101 = true := by kernel_rfl
@[simp] theorem Tryz.und101 : undP Tryz.prog 101 = true := by kernel_rfl
@[simp] theorem Tryz.kind101 : kindP Tryz.prog 101 = some .i64 := by kernel_rfl
@[simp] theorem Tryz.ifc101 : ifcP Tryz.prog 101 = false := by kernel_rfl
@[simp] theorem Tryz.by101 : bytesP Tryz.prog 101 = 8 := by kernel_rfl
@[simp] theorem Tryz.zero101 : zeroP Tryz.prog 101 = some (.int .i64 0) := by kernel_rfl
@[simp] theorem Tryz.zok101 : zokP Tryz.prog 101 = true := by kernel_rfl
@[simp] theorem Tryz.zbox101 : zbox Tryz.prog 101 = some ([.imm (.int .i64 0)], [none, none]) := by kernel_rfl
@[simp] theorem Tryz.sz102 : szP Tryz.prog 102 = 1 := by kernel_rfl
@[simp] theorem Tryz.row102 : isRowT Tryz.prog 102 = false := by kernel_rfl
@[simp] theorem Tryz.inf102 : infP Tryz.prog 102 = true := by kernel_rfl
@[simp] theorem Tryz.und102 : undP Tryz.prog 102 = true := by kernel_rfl
@[simp] theorem Tryz.ptr102 : ptrP Tryz.prog 102 = true := by kernel_rfl
@[simp] theorem Tryz.ifc102 : ifcP Tryz.prog 102 = false := by kernel_rfl
@[simp] theorem Tryz.by102 : bytesP Tryz.prog 102 = 8 := by kernel_rfl
@[simp] theorem Tryz.zero102 : zeroP Tryz.prog 102 = some (.pointer none) := by kernel_rfl
@[simp] theorem Tryz.zok102 : zokP Tryz.prog 102 = true := by kernel_rfl
@[simp] theorem Tryz.zbox102 : zbox Tryz.prog 102 = some ([.imm (.pointer none)], [none, none]) := by kernel_rfl
@[simp] theorem Tryz.sz104 : szP Tryz.prog 104 = 1 := by kernel_rfl
@[simp] theorem Tryz.row104 : isRowT Tryz.prog 104 = true := by kernel_rfl
@[simp] theorem Tryz.inf104 : infP Tryz.prog 104 = true := by kernel_rfl
@[simp] theorem Tryz.und104 : undP Tryz.prog 104 = true := by kernel_rfl
@[simp] theorem Tryz.ifc104 : ifcP Tryz.prog 104 = false := by kernel_rfl
@[simp] theorem Tryz.zpl104 : zplP Tryz.prog 104 = some ([.slice none 0 0], [(0, 1)]) := by kernel_rfl
@[simp] theorem Tryz.fld104_0 : fldP Tryz.prog 104 0 = some (0, 23) := by kernel_rfl
@[simp] theorem Tryz.by104 : bytesP Tryz.prog 104 = 24 := by kernel_rfl
@[simp] theorem Tryz.zero104 : zeroP Tryz.prog 104 = some (.agg #[.slice none 0 0]) := by kernel_rfl
@[simp] theorem Tryz.zok104 : zokP Tryz.prog 104 = true := by kernel_rfl
@[simp] theorem Tryz.zbox104 : zbox Tryz.prog 104 = some ([.sl []], [none, some none]) := by kernel_rfl
@[simp] theorem Tryz.sz107 : szP Tryz.prog 107 = 3 := by kernel_rfl
@[simp] theorem Tryz.row107 : isRowT Tryz.prog 107 = true := by kernel_rfl
@[simp] theorem Tryz.inf107 : infP Tryz.prog 107 = true := by kernel_rfl
@[simp] theorem Tryz.und107 : undP Tryz.prog 107 = true := by kernel_rfl
@[simp] theorem Tryz.ifc107 : ifcP Tryz.prog 107 = false := by kernel_rfl
@[simp] theorem Tryz.eq107 : eqTP Tryz.prog 107 = true := by kernel_rfl
@[simp] theorem Tryz.typs107 : typsP Tryz.prog 107 = [3, 3, 3] := by kernel_rfl
@[simp] theorem Tryz.zpl107 : zplP Tryz.prog 107 = some ([.int .i64 0, .int .i64 0, .int .i64 0], [(0, 1), (1, 1), (2, 1)]) := by kernel_rfl
@[simp] theorem Tryz.fld107_0 : fldP Tryz.prog 107 0 = some (0, 3) := by kernel_rfl
@[simp] theorem Tryz.fld107_1 : fldP Tryz.prog 107 1 = some (1, 3) := by kernel_rfl
@[simp] theorem Tryz.fld107_2 : fldP Tryz.prog 107 2 = some (2, 3) := by kernel_rfl
@[simp] theorem Tryz.by107 : bytesP Tryz.prog 107 = 24 := by kernel_rfl
@[simp] theorem Tryz.zero107 : zeroP Tryz.prog 107 = some (.agg #[.int .i64 0, .int .i64 0, .int .i64 0]) := by kernel_rfl
@[simp] theorem Tryz.zok107 : zokP Tryz.prog 107 = true := by kernel_rfl
@[simp] theorem Tryz.zbox107 : zbox Tryz.prog 107 = some ([.imm (.int .i64 0), .imm (.int .i64 0), .imm (.int .i64 0)], [none, none, none, none]) := by kernel_rfl
@[simp] theorem Tryz.sz111 : szP Tryz.prog 111 = 2 := by kernel_rfl
@[simp] theorem Tryz.row111 : isRowT Tryz.prog 111 = true := by kernel_rfl
@[simp] theorem Tryz.inf111 : infP Tryz.prog 111 = true := by kernel_rfl
@[simp] theorem Tryz.und111 : undP Tryz.prog 111 = true := by kernel_rfl
@[simp] theorem Tryz.ifc111 : ifcP Tryz.prog 111 = false := by kernel_rfl
@[simp] theorem Tryz.zpl111 : zplP Tryz.prog 111 = some ([.slice none 0 0, .slice none 0 0], [(0, 1), (1, 1)]) := by kernel_rfl
@[simp] theorem Tryz.fld111_0 : fldP Tryz.prog 111 0 = some (0, 22) := by kernel_rfl
@[simp] theorem Tryz.fld111_1 : fldP Tryz.prog 111 1 = some (1, 23) := by kernel_rfl
@[simp] theorem Tryz.by111 : bytesP Tryz.prog 111 = 48 := by kernel_rfl
@[simp] theorem Tryz.zero111 : zeroP Tryz.prog 111 = some (.agg #[.slice none 0 0, .slice none 0 0]) := by kernel_rfl
@[simp] theorem Tryz.zok111 : zokP Tryz.prog 111 = true := by kernel_rfl
@[simp] theorem Tryz.zbox111 : zbox Tryz.prog 111 = some ([.sl [], .sl []], [none, some none, some none]) := by kernel_rfl
@[simp] theorem Tryz.sz114 : szP Tryz.prog 114 = 1 := by kernel_rfl
@[simp] theorem Tryz.row114 : isRowT Tryz.prog 114 = false := by kernel_rfl
@[simp] theorem Tryz.inf114 : infP Tryz.prog 114 = true := by kernel_rfl
@[simp] theorem Tryz.und114 : undP Tryz.prog 114 = true := by kernel_rfl
@[simp] theorem Tryz.ptr114 : ptrP Tryz.prog 114 = true := by kernel_rfl
@[simp] theorem Tryz.ifc114 : ifcP Tryz.prog 114 = false := by kernel_rfl
@[simp] theorem Tryz.by114 : bytesP Tryz.prog 114 = 8 := by kernel_rfl
@[simp] theorem Tryz.zero114 : zeroP Tryz.prog 114 = some (.pointer none) := by kernel_rfl
@[simp] theorem Tryz.zok114 : zokP Tryz.prog 114 = true := by kernel_rfl
@[simp] theorem Tryz.zbox114 : zbox Tryz.prog 114 = some ([.imm (.pointer none)], [none, none]) := by kernel_rfl
@[simp] theorem Tryz.sz116 : szP Tryz.prog 116 = 1 := by kernel_rfl
@[simp] theorem Tryz.row116 : isRowT Tryz.prog 116 = false := by kernel_rfl
@[simp] theorem Tryz.inf116 : infP Tryz.prog 116 = true := by kernel_rfl
@[simp] theorem Tryz.und116 : undP Tryz.prog 116 = true := by kernel_rfl
@[simp] theorem Tryz.ptr116 : ptrP Tryz.prog 116 = true := by kernel_rfl
@[simp] theorem Tryz.ifc116 : ifcP Tryz.prog 116 = false := by kernel_rfl
@[simp] theorem Tryz.by116 : bytesP Tryz.prog 116 = 8 := by kernel_rfl
@[simp] theorem Tryz.zero116 : zeroP Tryz.prog 116 = some (.pointer none) := by kernel_rfl
@[simp] theorem Tryz.zok116 : zokP Tryz.prog 116 = true := by kernel_rfl
@[simp] theorem Tryz.zbox116 : zbox Tryz.prog 116 = some ([.imm (.pointer none)], [none, none]) := by kernel_rfl
@[simp] theorem Tryz.sz118 : szP Tryz.prog 118 = 4 := by kernel_rfl
@[simp] theorem Tryz.row118 : isRowT Tryz.prog 118 = true := by kernel_rfl
@[simp] theorem Tryz.inf118 : infP Tryz.prog 118 = true := by kernel_rfl
@[simp] theorem Tryz.und118 : undP Tryz.prog 118 = true := by kernel_rfl
@[simp] theorem Tryz.ifc118 : ifcP Tryz.prog 118 = false := by kernel_rfl
@[simp] theorem Tryz.zpl118 : zplP Tryz.prog 118 = some ([.int .i64 0, .int .i64 0, .string ⟨#[]⟩, .nilIface], [(0, 1), (1, 1), (2, 1), (3, 1)]) := by kernel_rfl
@[simp] theorem Tryz.fld118_0 : fldP Tryz.prog 118 0 = some (0, 32) := by kernel_rfl
@[simp] theorem Tryz.fld118_1 : fldP Tryz.prog 118 1 = some (1, 3) := by kernel_rfl
@[simp] theorem Tryz.fld118_2 : fldP Tryz.prog 118 2 = some (2, 9) := by kernel_rfl
@[simp] theorem Tryz.fld118_3 : fldP Tryz.prog 118 3 = some (3, 44) := by kernel_rfl
@[simp] theorem Tryz.by118 : bytesP Tryz.prog 118 = 48 := by kernel_rfl
@[simp] theorem Tryz.zero118 : zeroP Tryz.prog 118 = some (.agg #[.int .i64 0, .int .i64 0, .string ⟨#[]⟩, .nilIface]) := by kernel_rfl
@[simp] theorem Tryz.zok118 : zokP Tryz.prog 118 = true := by kernel_rfl
@[simp] theorem Tryz.zbox118 : zbox Tryz.prog 118 = some ([.imm (.int .i64 0), .imm (.int .i64 0), .imm (.string ⟨#[]⟩), .imm (.nilIface)], [none, none, none, none, none]) := by kernel_rfl
@[simp] theorem Tryz.sz127 : szP Tryz.prog 127 = 1 := by kernel_rfl
@[simp] theorem Tryz.row127 : isRowT Tryz.prog 127 = false := by kernel_rfl
@[simp] theorem Tryz.inf127 : infP Tryz.prog 127 = true := by kernel_rfl
@[simp] theorem Tryz.und127 : undP Tryz.prog 127 = true := by kernel_rfl
@[simp] theorem Tryz.kind127 : kindP Tryz.prog 127 = some .i64 := by kernel_rfl
@[simp] theorem Tryz.ifc127 : ifcP Tryz.prog 127 = false := by kernel_rfl
@[simp] theorem Tryz.by127 : bytesP Tryz.prog 127 = 8 := by kernel_rfl
@[simp] theorem Tryz.zero127 : zeroP Tryz.prog 127 = some (.int .i64 0) := by kernel_rfl
@[simp] theorem Tryz.zok127 : zokP Tryz.prog 127 = true := by kernel_rfl
@[simp] theorem Tryz.zbox127 : zbox Tryz.prog 127 = some ([.imm (.int .i64 0)], [none, none]) := by kernel_rfl
@[simp] theorem Tryz.sz129 : szP Tryz.prog 129 = 2 := by kernel_rfl
@[simp] theorem Tryz.row129 : isRowT Tryz.prog 129 = true := by kernel_rfl
@[simp] theorem Tryz.inf129 : infP Tryz.prog 129 = true := by kernel_rfl
@[simp] theorem Tryz.und129 : undP Tryz.prog 129 = true := by kernel_rfl
@[simp] theorem Tryz.ifc129 : ifcP Tryz.prog 129 = false := by kernel_rfl
@[simp] theorem Tryz.eq129 : eqTP Tryz.prog 129 = true := by kernel_rfl
@[simp] theorem Tryz.typs129 : typsP Tryz.prog 129 = [127, 36] := by kernel_rfl
@[simp] theorem Tryz.zpl129 : zplP Tryz.prog 129 = some ([.int .i64 0, .int .i64 0], [(0, 1), (1, 1)]) := by kernel_rfl
@[simp] theorem Tryz.fld129_0 : fldP Tryz.prog 129 0 = some (0, 127) := by kernel_rfl
@[simp] theorem Tryz.fld129_1 : fldP Tryz.prog 129 1 = some (1, 36) := by kernel_rfl
@[simp] theorem Tryz.by129 : bytesP Tryz.prog 129 = 16 := by kernel_rfl
@[simp] theorem Tryz.zero129 : zeroP Tryz.prog 129 = some (.agg #[.int .i64 0, .int .i64 0]) := by kernel_rfl
@[simp] theorem Tryz.zok129 : zokP Tryz.prog 129 = true := by kernel_rfl
@[simp] theorem Tryz.zbox129 : zbox Tryz.prog 129 = some ([.imm (.int .i64 0), .imm (.int .i64 0)], [none, none, none]) := by kernel_rfl
@[simp] theorem Tryz.sz145 : szP Tryz.prog 145 = 1 := by kernel_rfl
@[simp] theorem Tryz.row145 : isRowT Tryz.prog 145 = false := by kernel_rfl
@[simp] theorem Tryz.inf145 : infP Tryz.prog 145 = true := by kernel_rfl
@[simp] theorem Tryz.und145 : undP Tryz.prog 145 = true := by kernel_rfl
@[simp] theorem Tryz.ifc145 : ifcP Tryz.prog 145 = false := by kernel_rfl
@[simp] theorem Tryz.by145 : bytesP Tryz.prog 145 = 24 := by kernel_rfl
@[simp] theorem Tryz.zero145 : zeroP Tryz.prog 145 = some (.slice none 0 0) := by kernel_rfl
@[simp] theorem Tryz.zok145 : zokP Tryz.prog 145 = true := by kernel_rfl
@[simp] theorem Tryz.zbox145 : zbox Tryz.prog 145 = some ([.sl []], [none, some none]) := by kernel_rfl
@[simp] theorem Tryz.elem145 : elemP Tryz.prog 145 = some 271 := by kernel_rfl
@[simp] theorem Tryz.sz147 : szP Tryz.prog 147 = 5 := by kernel_rfl
@[simp] theorem Tryz.row147 : isRowT Tryz.prog 147 = true := by kernel_rfl
@[simp] theorem Tryz.inf147 : infP Tryz.prog 147 = true := by kernel_rfl
@[simp] theorem Tryz.und147 : undP Tryz.prog 147 = true := by kernel_rfl
@[simp] theorem Tryz.ifc147 : ifcP Tryz.prog 147 = false := by kernel_rfl
@[simp] theorem Tryz.zpl147 : zplP Tryz.prog 147 = some ([.string ⟨#[]⟩, .slice none 0 0, .slice none 0 0, .slice none 0 0, .bool false], [(0, 1), (1, 1), (2, 1), (3, 1), (4, 1)]) := by kernel_rfl
@[simp] theorem Tryz.fld147_0 : fldP Tryz.prog 147 0 = some (0, 9) := by kernel_rfl
@[simp] theorem Tryz.fld147_1 : fldP Tryz.prog 147 1 = some (1, 78) := by kernel_rfl
@[simp] theorem Tryz.fld147_2 : fldP Tryz.prog 147 2 = some (2, 145) := by kernel_rfl
@[simp] theorem Tryz.fld147_3 : fldP Tryz.prog 147 3 = some (3, 79) := by kernel_rfl
@[simp] theorem Tryz.fld147_4 : fldP Tryz.prog 147 4 = some (4, 4) := by kernel_rfl
@[simp] theorem Tryz.by147 : bytesP Tryz.prog 147 = 96 := by kernel_rfl
@[simp] theorem Tryz.zero147 : zeroP Tryz.prog 147 = some (.agg #[.string ⟨#[]⟩, .slice none 0 0, .slice none 0 0, .slice none 0 0, .bool false]) := by kernel_rfl
@[simp] theorem Tryz.zok147 : zokP Tryz.prog 147 = true := by kernel_rfl
@[simp] theorem Tryz.zbox147 : zbox Tryz.prog 147 = some ([.imm (.string ⟨#[]⟩), .sl [], .sl [], .sl [], .imm (.bool false)], [none, none, some none, some none, some none, none]) := by kernel_rfl
@[simp] theorem Tryz.sz154 : szP Tryz.prog 154 = 1 := by kernel_rfl
@[simp] theorem Tryz.row154 : isRowT Tryz.prog 154 = false := by kernel_rfl
@[simp] theorem Tryz.inf154 : infP Tryz.prog 154 = true := by kernel_rfl
@[simp] theorem Tryz.und154 : undP Tryz.prog 154 = true := by kernel_rfl
@[simp] theorem Tryz.ifc154 : ifcP Tryz.prog 154 = false := by kernel_rfl
@[simp] theorem Tryz.by154 : bytesP Tryz.prog 154 = 24 := by kernel_rfl
@[simp] theorem Tryz.zero154 : zeroP Tryz.prog 154 = some (.slice none 0 0) := by kernel_rfl
@[simp] theorem Tryz.zok154 : zokP Tryz.prog 154 = true := by kernel_rfl
@[simp] theorem Tryz.zbox154 : zbox Tryz.prog 154 = some ([.sl []], [none, some none]) := by kernel_rfl
@[simp] theorem Tryz.elem154 : elemP Tryz.prog 154 = some 320 := by kernel_rfl
@[simp] theorem Tryz.sz155 : szP Tryz.prog 155 = 1 := by kernel_rfl
@[simp] theorem Tryz.row155 : isRowT Tryz.prog 155 = false := by kernel_rfl
@[simp] theorem Tryz.inf155 : infP Tryz.prog 155 = true := by kernel_rfl
@[simp] theorem Tryz.und155 : undP Tryz.prog 155 = true := by kernel_rfl
@[simp] theorem Tryz.ifc155 : ifcP Tryz.prog 155 = false := by kernel_rfl
@[simp] theorem Tryz.by155 : bytesP Tryz.prog 155 = 24 := by kernel_rfl
@[simp] theorem Tryz.zero155 : zeroP Tryz.prog 155 = some (.slice none 0 0) := by kernel_rfl
@[simp] theorem Tryz.zok155 : zokP Tryz.prog 155 = true := by kernel_rfl
@[simp] theorem Tryz.zbox155 : zbox Tryz.prog 155 = some ([.sl []], [none, some none]) := by kernel_rfl
@[simp] theorem Tryz.elem155 : elemP Tryz.prog 155 = some 318 := by kernel_rfl
@[simp] theorem Tryz.sz157 : szP Tryz.prog 157 = 2 := by kernel_rfl
@[simp] theorem Tryz.row157 : isRowT Tryz.prog 157 = true := by kernel_rfl
@[simp] theorem Tryz.inf157 : infP Tryz.prog 157 = true := by kernel_rfl
@[simp] theorem Tryz.und157 : undP Tryz.prog 157 = true := by kernel_rfl
@[simp] theorem Tryz.ifc157 : ifcP Tryz.prog 157 = false := by kernel_rfl
@[simp] theorem Tryz.zpl157 : zplP Tryz.prog 157 = some ([.slice none 0 0, .slice none 0 0], [(0, 1), (1, 1)]) := by kernel_rfl
@[simp] theorem Tryz.fld157_0 : fldP Tryz.prog 157 0 = some (0, 154) := by kernel_rfl
@[simp] theorem Tryz.fld157_1 : fldP Tryz.prog 157 1 = some (1, 155) := by kernel_rfl
@[simp] theorem Tryz.by157 : bytesP Tryz.prog 157 = 48 := by kernel_rfl
@[simp] theorem Tryz.zero157 : zeroP Tryz.prog 157 = some (.agg #[.slice none 0 0, .slice none 0 0]) := by kernel_rfl
@[simp] theorem Tryz.zok157 : zokP Tryz.prog 157 = true := by kernel_rfl
@[simp] theorem Tryz.zbox157 : zbox Tryz.prog 157 = some ([.sl [], .sl []], [none, some none, some none]) := by kernel_rfl
@[simp] theorem Tryz.sz159 : szP Tryz.prog 159 = 26 := by kernel_rfl
@[simp] theorem Tryz.row159 : isRowT Tryz.prog 159 = true := by kernel_rfl
@[simp] theorem Tryz.inf159 : infP Tryz.prog 159 = true := by kernel_rfl
@[simp] theorem Tryz.und159 : undP Tryz.prog 159 = true := by kernel_rfl
@[simp] theorem Tryz.ifc159 : ifcP Tryz.prog 159 = false := by kernel_rfl
@[simp] theorem Tryz.zpl159 : zplP Tryz.prog 159 = some ([.slice none 0 0, .slice none 0 0, .string ⟨#[]⟩, .slice none 0 0, .slice none 0 0, .slice none 0 0, .string ⟨#[]⟩, .slice none 0 0, .slice none 0 0, .int .i64 0, .string ⟨#[]⟩, .slice none 0 0, .slice none 0 0, .slice none 0 0, .bool false, .string ⟨#[]⟩, .slice none 0 0, .slice none 0 0, .slice none 0 0, .string ⟨#[]⟩, .slice none 0 0, .slice none 0 0, .int .i64 0, .bool false, .slice none 0 0, .slice none 0 0], [(0, 2), (2, 8), (10, 5), (15, 8), (23, 1), (24, 2)]) := by kernel_rfl
@[simp] theorem Tryz.fld159_0 : fldP Tryz.prog 159 0 = some (0, 157) := by kernel_rfl
@[simp] theorem Tryz.fld159_1 : fldP Tryz.prog 159 1 = some (2, 84) := by kernel_rfl
@[simp] theorem Tryz.fld159_2 : fldP Tryz.prog 159 2 = some (10, 147) := by kernel_rfl
@[simp] theorem Tryz.fld159_3 : fldP Tryz.prog 159 3 = some (15, 84) := by kernel_rfl
@[simp] theorem Tryz.fld159_4 : fldP Tryz.prog 159 4 = some (23, 4) := by kernel_rfl
@[simp] theorem Tryz.fld159_5 : fldP Tryz.prog 159 5 = some (24, 25) := by kernel_rfl
@[simp] theorem Tryz.by159 : bytesP Tryz.prog 159 = 520 := by kernel_rfl
@[simp] theorem Tryz.zero159 : zeroP Tryz.prog 159 = some (.agg #[.slice none 0 0, .slice none 0 0, .string ⟨#[]⟩, .slice none 0 0, .slice none 0 0, .slice none 0 0, .string ⟨#[]⟩, .slice none 0 0, .slice none 0 0, .int .i64 0, .string ⟨#[]⟩, .slice none 0 0, .slice none 0 0, .slice none 0 0, .bool false, .string ⟨#[]⟩, .slice none 0 0, .slice none 0 0, .slice none 0 0, .string ⟨#[]⟩, .slice none 0 0, .slice none 0 0, .int .i64 0, .bool false, .slice none 0 0, .slice none 0 0]) := by kernel_rfl
@[simp] theorem Tryz.zok159 : zokP Tryz.prog 159 = true := by kernel_rfl
@[simp] theorem Tryz.zbox159 : zbox Tryz.prog 159 = some ([.sl [], .sl [], .imm (.string ⟨#[]⟩), .sl [], .sl [], .sl [], .imm (.string ⟨#[]⟩), .sl [], .sl [], .imm (.int .i64 0), .imm (.string ⟨#[]⟩), .sl [], .sl [], .sl [], .imm (.bool false), .imm (.string ⟨#[]⟩), .sl [], .sl [], .sl [], .imm (.string ⟨#[]⟩), .sl [], .sl [], .imm (.int .i64 0), .imm (.bool false), .sl [], .sl []], [none, some none, some none, none, some none, some none, some none, none, some none, some none, none, none, some none, some none, some none, none, none, some none, some none, some none, none, some none, some none, none, none, some none, some none]) := by kernel_rfl
@[simp] theorem Tryz.sz164 : szP Tryz.prog 164 = 1 := by kernel_rfl
@[simp] theorem Tryz.row164 : isRowT Tryz.prog 164 = false := by kernel_rfl
@[simp] theorem Tryz.inf164 : infP Tryz.prog 164 = true := by kernel_rfl
@[simp] theorem Tryz.und164 : undP Tryz.prog 164 = true := by kernel_rfl
@[simp] theorem Tryz.ifc164 : ifcP Tryz.prog 164 = false := by kernel_rfl
@[simp] theorem Tryz.by164 : bytesP Tryz.prog 164 = 24 := by kernel_rfl
@[simp] theorem Tryz.zero164 : zeroP Tryz.prog 164 = some (.slice none 0 0) := by kernel_rfl
@[simp] theorem Tryz.zok164 : zokP Tryz.prog 164 = true := by kernel_rfl
@[simp] theorem Tryz.zbox164 : zbox Tryz.prog 164 = some ([.sl []], [none, some none]) := by kernel_rfl
@[simp] theorem Tryz.elem164 : elemP Tryz.prog 164 = some 99 := by kernel_rfl
@[simp] theorem Tryz.sz170 : szP Tryz.prog 170 = 20 := by kernel_rfl
@[simp] theorem Tryz.row170 : isRowT Tryz.prog 170 = true := by kernel_rfl
@[simp] theorem Tryz.inf170 : infP Tryz.prog 170 = true := by kernel_rfl
@[simp] theorem Tryz.und170 : undP Tryz.prog 170 = true := by kernel_rfl
@[simp] theorem Tryz.ifc170 : ifcP Tryz.prog 170 = false := by kernel_rfl
@[simp] theorem Tryz.zpl170 : zplP Tryz.prog 170 = some ([.int .i64 0, .bool false, .int .i64 0, .int .i64 0, .int .i64 0, .string ⟨#[]⟩, .int .i64 0, .int .i64 0, .int .i64 0, .slice none 0 0, .slice none 0 0, .int .i64 0, .int .i64 0, .string ⟨#[]⟩, .int .i64 0, .int .i64 0, .string ⟨#[]⟩, .int .i64 0, .slice none 0 0, .pointer none], [(0, 1), (1, 1), (2, 16), (18, 1), (19, 1)]) := by kernel_rfl
@[simp] theorem Tryz.fld170_0 : fldP Tryz.prog 170 0 = some (0, 53) := by kernel_rfl
@[simp] theorem Tryz.fld170_1 : fldP Tryz.prog 170 1 = some (1, 4) := by kernel_rfl
@[simp] theorem Tryz.fld170_2 : fldP Tryz.prog 170 2 = some (2, 61) := by kernel_rfl
@[simp] theorem Tryz.fld170_3 : fldP Tryz.prog 170 3 = some (18, 164) := by kernel_rfl
@[simp] theorem Tryz.fld170_4 : fldP Tryz.prog 170 4 = some (19, 99) := by kernel_rfl
@[simp] theorem Tryz.by170 : bytesP Tryz.prog 170 = 232 := by kernel_rfl
@[simp] theorem Tryz.zero170 : zeroP Tryz.prog 170 = some (.agg #[.int .i64 0, .bool false, .int .i64 0, .int .i64 0, .int .i64 0, .string ⟨#[]⟩, .int .i64 0, .int .i64 0, .int .i64 0, .slice none 0 0, .slice none 0 0, .int .i64 0, .int .i64 0, .string ⟨#[]⟩, .int .i64 0, .int .i64 0, .string ⟨#[]⟩, .int .i64 0, .slice none 0 0, .pointer none]) := by kernel_rfl
@[simp] theorem Tryz.zok170 : zokP Tryz.prog 170 = true := by kernel_rfl
@[simp] theorem Tryz.zbox170 : zbox Tryz.prog 170 = some ([.imm (.int .i64 0), .imm (.bool false), .imm (.int .i64 0), .imm (.int .i64 0), .imm (.int .i64 0), .imm (.string ⟨#[]⟩), .imm (.int .i64 0), .imm (.int .i64 0), .imm (.int .i64 0), .sl [], .sl [], .imm (.int .i64 0), .imm (.int .i64 0), .imm (.string ⟨#[]⟩), .imm (.int .i64 0), .imm (.int .i64 0), .imm (.string ⟨#[]⟩), .imm (.int .i64 0), .sl [], .imm (.pointer none)], [none, none, none, none, none, none, none, none, none, none, some none, some none, none, none, none, none, none, none, none, some none, none]) := by kernel_rfl
@[simp] theorem Tryz.sz175 : szP Tryz.prog 175 = 1 := by kernel_rfl
@[simp] theorem Tryz.row175 : isRowT Tryz.prog 175 = false := by kernel_rfl
@[simp] theorem Tryz.inf175 : infP Tryz.prog 175 = true := by kernel_rfl
@[simp] theorem Tryz.und175 : undP Tryz.prog 175 = true := by kernel_rfl
@[simp] theorem Tryz.ifc175 : ifcP Tryz.prog 175 = false := by kernel_rfl
@[simp] theorem Tryz.by175 : bytesP Tryz.prog 175 = 24 := by kernel_rfl
@[simp] theorem Tryz.zero175 : zeroP Tryz.prog 175 = some (.slice none 0 0) := by kernel_rfl
@[simp] theorem Tryz.zok175 : zokP Tryz.prog 175 = true := by kernel_rfl
@[simp] theorem Tryz.zbox175 : zbox Tryz.prog 175 = some ([.sl []], [none, some none]) := by kernel_rfl
@[simp] theorem Tryz.elem175 : elemP Tryz.prog 175 = some 111 := by kernel_rfl
@[simp] theorem Tryz.sz201 : szP Tryz.prog 201 = 1 := by kernel_rfl
@[simp] theorem Tryz.row201 : isRowT Tryz.prog 201 = false := by kernel_rfl
@[simp] theorem Tryz.inf201 : infP Tryz.prog 201 = true := by kernel_rfl
@[simp] theorem Tryz.und201 : undP Tryz.prog 201 = true := by kernel_rfl
@[simp] theorem Tryz.ifc201 : ifcP Tryz.prog 201 = false := by kernel_rfl
@[simp] theorem Tryz.by201 : bytesP Tryz.prog 201 = 8 := by kernel_rfl
@[simp] theorem Tryz.zero201 : zeroP Tryz.prog 201 = some (.nilFunc) := by kernel_rfl
@[simp] theorem Tryz.zok201 : zokP Tryz.prog 201 = true := by kernel_rfl
@[simp] theorem Tryz.zbox201 : zbox Tryz.prog 201 = some ([.imm (.nilFunc)], [none, none]) := by kernel_rfl
@[simp] theorem Tryz.sz207 : szP Tryz.prog 207 = 1 := by kernel_rfl
@[simp] theorem Tryz.row207 : isRowT Tryz.prog 207 = false := by kernel_rfl
@[simp] theorem Tryz.inf207 : infP Tryz.prog 207 = true := by kernel_rfl
@[simp] theorem Tryz.und207 : undP Tryz.prog 207 = true := by kernel_rfl
@[simp] theorem Tryz.ifc207 : ifcP Tryz.prog 207 = false := by kernel_rfl
@[simp] theorem Tryz.by207 : bytesP Tryz.prog 207 = 24 := by kernel_rfl
@[simp] theorem Tryz.zero207 : zeroP Tryz.prog 207 = some (.slice none 0 0) := by kernel_rfl
@[simp] theorem Tryz.zok207 : zokP Tryz.prog 207 = true := by kernel_rfl
@[simp] theorem Tryz.zbox207 : zbox Tryz.prog 207 = some ([.sl []], [none, some none]) := by kernel_rfl
@[simp] theorem Tryz.elem207 : elemP Tryz.prog 207 = some 4 := by kernel_rfl
@[simp] theorem Tryz.sz210 : szP Tryz.prog 210 = 9 := by kernel_rfl
@[simp] theorem Tryz.row210 : isRowT Tryz.prog 210 = true := by kernel_rfl
@[simp] theorem Tryz.inf210 : infP Tryz.prog 210 = true := by kernel_rfl
@[simp] theorem Tryz.und210 : undP Tryz.prog 210 = true := by kernel_rfl
@[simp] theorem Tryz.ifc210 : ifcP Tryz.prog 210 = false := by kernel_rfl
@[simp] theorem Tryz.zpl210 : zplP Tryz.prog 210 = some ([.int .i64 0, .bool false, .string ⟨#[]⟩, .int .i64 0, .int .i64 0, .int .i64 0, .string ⟨#[]⟩, .int .i64 0, .pointer none], [(0, 1), (1, 1), (2, 1), (3, 1), (4, 4), (8, 1)]) := by kernel_rfl
@[simp] theorem Tryz.fld210_0 : fldP Tryz.prog 210 0 = some (0, 3) := by kernel_rfl
@[simp] theorem Tryz.fld210_1 : fldP Tryz.prog 210 1 = some (1, 4) := by kernel_rfl
@[simp] theorem Tryz.fld210_2 : fldP Tryz.prog 210 2 = some (2, 9) := by kernel_rfl
@[simp] theorem Tryz.fld210_3 : fldP Tryz.prog 210 3 = some (3, 3) := by kernel_rfl
@[simp] theorem Tryz.fld210_4 : fldP Tryz.prog 210 4 = some (4, 57) := by kernel_rfl
@[simp] theorem Tryz.fld210_5 : fldP Tryz.prog 210 5 = some (8, 99) := by kernel_rfl
@[simp] theorem Tryz.by210 : bytesP Tryz.prog 210 = 88 := by kernel_rfl
@[simp] theorem Tryz.zero210 : zeroP Tryz.prog 210 = some (.agg #[.int .i64 0, .bool false, .string ⟨#[]⟩, .int .i64 0, .int .i64 0, .int .i64 0, .string ⟨#[]⟩, .int .i64 0, .pointer none]) := by kernel_rfl
@[simp] theorem Tryz.zok210 : zokP Tryz.prog 210 = true := by kernel_rfl
@[simp] theorem Tryz.zbox210 : zbox Tryz.prog 210 = some ([.imm (.int .i64 0), .imm (.bool false), .imm (.string ⟨#[]⟩), .imm (.int .i64 0), .imm (.int .i64 0), .imm (.int .i64 0), .imm (.string ⟨#[]⟩), .imm (.int .i64 0), .imm (.pointer none)], [none, none, none, none, none, none, none, none, none, none]) := by kernel_rfl
@[simp] theorem Tryz.sz223 : szP Tryz.prog 223 = 1 := by kernel_rfl
@[simp] theorem Tryz.row223 : isRowT Tryz.prog 223 = false := by kernel_rfl
@[simp] theorem Tryz.inf223 : infP Tryz.prog 223 = true := by kernel_rfl
@[simp] theorem Tryz.und223 : undP Tryz.prog 223 = true := by kernel_rfl
@[simp] theorem Tryz.ifc223 : ifcP Tryz.prog 223 = false := by kernel_rfl
@[simp] theorem Tryz.by223 : bytesP Tryz.prog 223 = 8 := by kernel_rfl
@[simp] theorem Tryz.zero223 : zeroP Tryz.prog 223 = some (.nilFunc) := by kernel_rfl
@[simp] theorem Tryz.zok223 : zokP Tryz.prog 223 = true := by kernel_rfl
@[simp] theorem Tryz.zbox223 : zbox Tryz.prog 223 = some ([.imm (.nilFunc)], [none, none]) := by kernel_rfl
@[simp] theorem Tryz.sz230 : szP Tryz.prog 230 = 5 := by kernel_rfl
@[simp] theorem Tryz.row230 : isRowT Tryz.prog 230 = true := by kernel_rfl
@[simp] theorem Tryz.inf230 : infP Tryz.prog 230 = true := by kernel_rfl
@[simp] theorem Tryz.und230 : undP Tryz.prog 230 = true := by kernel_rfl
@[simp] theorem Tryz.ifc230 : ifcP Tryz.prog 230 = false := by kernel_rfl
@[simp] theorem Tryz.eq230 : eqTP Tryz.prog 230 = true := by kernel_rfl
@[simp] theorem Tryz.typs230 : typsP Tryz.prog 230 = [4, 4, 4, 9, 3] := by kernel_rfl
@[simp] theorem Tryz.zpl230 : zplP Tryz.prog 230 = some ([.bool false, .bool false, .bool false, .string ⟨#[]⟩, .int .i64 0], [(0, 1), (1, 1), (2, 1), (3, 1), (4, 1)]) := by kernel_rfl
@[simp] theorem Tryz.fld230_0 : fldP Tryz.prog 230 0 = some (0, 4) := by kernel_rfl
@[simp] theorem Tryz.fld230_1 : fldP Tryz.prog 230 1 = some (1, 4) := by kernel_rfl
@[simp] theorem Tryz.fld230_2 : fldP Tryz.prog 230 2 = some (2, 4) := by kernel_rfl
@[simp] theorem Tryz.fld230_3 : fldP Tryz.prog 230 3 = some (3, 9) := by kernel_rfl
@[simp] theorem Tryz.fld230_4 : fldP Tryz.prog 230 4 = some (4, 3) := by kernel_rfl
@[simp] theorem Tryz.by230 : bytesP Tryz.prog 230 = 32 := by kernel_rfl
@[simp] theorem Tryz.zero230 : zeroP Tryz.prog 230 = some (.agg #[.bool false, .bool false, .bool false, .string ⟨#[]⟩, .int .i64 0]) := by kernel_rfl
@[simp] theorem Tryz.zok230 : zokP Tryz.prog 230 = true := by kernel_rfl
@[simp] theorem Tryz.zbox230 : zbox Tryz.prog 230 = some ([.imm (.bool false), .imm (.bool false), .imm (.bool false), .imm (.string ⟨#[]⟩), .imm (.int .i64 0)], [none, none, none, none, none, none]) := by kernel_rfl
@[simp] theorem Tryz.sz255 : szP Tryz.prog 255 = 1 := by kernel_rfl
@[simp] theorem Tryz.row255 : isRowT Tryz.prog 255 = false := by kernel_rfl
@[simp] theorem Tryz.inf255 : infP Tryz.prog 255 = true := by kernel_rfl
@[simp] theorem Tryz.und255 : undP Tryz.prog 255 = true := by kernel_rfl
@[simp] theorem Tryz.ifc255 : ifcP Tryz.prog 255 = false := by kernel_rfl
@[simp] theorem Tryz.by255 : bytesP Tryz.prog 255 = 24 := by kernel_rfl
@[simp] theorem Tryz.zero255 : zeroP Tryz.prog 255 = some (.slice none 0 0) := by kernel_rfl
@[simp] theorem Tryz.zok255 : zokP Tryz.prog 255 = true := by kernel_rfl
@[simp] theorem Tryz.zbox255 : zbox Tryz.prog 255 = some ([.sl []], [none, some none]) := by kernel_rfl
@[simp] theorem Tryz.elem255 : elemP Tryz.prog 255 = some 5 := by kernel_rfl
@[simp] theorem Tryz.sz271 : szP Tryz.prog 271 = 3 := by kernel_rfl
@[simp] theorem Tryz.row271 : isRowT Tryz.prog 271 = true := by kernel_rfl
@[simp] theorem Tryz.inf271 : infP Tryz.prog 271 = true := by kernel_rfl
@[simp] theorem Tryz.und271 : undP Tryz.prog 271 = true := by kernel_rfl
@[simp] theorem Tryz.ifc271 : ifcP Tryz.prog 271 = false := by kernel_rfl
@[simp] theorem Tryz.eq271 : eqTP Tryz.prog 271 = true := by kernel_rfl
@[simp] theorem Tryz.typs271 : typsP Tryz.prog 271 = [9, 9, 9] := by kernel_rfl
@[simp] theorem Tryz.zpl271 : zplP Tryz.prog 271 = some ([.string ⟨#[]⟩, .string ⟨#[]⟩, .string ⟨#[]⟩], [(0, 1), (1, 1), (2, 1)]) := by kernel_rfl
@[simp] theorem Tryz.fld271_0 : fldP Tryz.prog 271 0 = some (0, 9) := by kernel_rfl
@[simp] theorem Tryz.fld271_1 : fldP Tryz.prog 271 1 = some (1, 9) := by kernel_rfl
@[simp] theorem Tryz.fld271_2 : fldP Tryz.prog 271 2 = some (2, 9) := by kernel_rfl
@[simp] theorem Tryz.by271 : bytesP Tryz.prog 271 = 48 := by kernel_rfl
@[simp] theorem Tryz.zero271 : zeroP Tryz.prog 271 = some (.agg #[.string ⟨#[]⟩, .string ⟨#[]⟩, .string ⟨#[]⟩]) := by kernel_rfl
@[simp] theorem Tryz.zok271 : zokP Tryz.prog 271 = true := by kernel_rfl
@[simp] theorem Tryz.zbox271 : zbox Tryz.prog 271 = some ([.imm (.string ⟨#[]⟩), .imm (.string ⟨#[]⟩), .imm (.string ⟨#[]⟩)], [none, none, none, none]) := by kernel_rfl
@[simp] theorem Tryz.sz318 : szP Tryz.prog 318 = 11 := by kernel_rfl
@[simp] theorem Tryz.row318 : isRowT Tryz.prog 318 = true := by kernel_rfl
@[simp] theorem Tryz.inf318 : infP Tryz.prog 318 = true := by kernel_rfl
@[simp] theorem Tryz.und318 : undP Tryz.prog 318 = true := by kernel_rfl
@[simp] theorem Tryz.ifc318 : ifcP Tryz.prog 318 = false := by kernel_rfl
@[simp] theorem Tryz.zpl318 : zplP Tryz.prog 318 = some ([.int .i64 0, .int .i64 0, .string ⟨#[]⟩, .slice none 0 0, .slice none 0 0, .slice none 0 0, .string ⟨#[]⟩, .slice none 0 0, .slice none 0 0, .int .i64 0, .string ⟨#[]⟩], [(0, 1), (1, 1), (2, 8), (10, 1)]) := by kernel_rfl
@[simp] theorem Tryz.fld318_0 : fldP Tryz.prog 318 0 = some (0, 3) := by kernel_rfl
@[simp] theorem Tryz.fld318_1 : fldP Tryz.prog 318 1 = some (1, 3) := by kernel_rfl
@[simp] theorem Tryz.fld318_2 : fldP Tryz.prog 318 2 = some (2, 84) := by kernel_rfl
@[simp] theorem Tryz.fld318_3 : fldP Tryz.prog 318 3 = some (10, 9) := by kernel_rfl
@[simp] theorem Tryz.by318 : bytesP Tryz.prog 318 = 192 := by kernel_rfl
@[simp] theorem Tryz.zero318 : zeroP Tryz.prog 318 = some (.agg #[.int .i64 0, .int .i64 0, .string ⟨#[]⟩, .slice none 0 0, .slice none 0 0, .slice none 0 0, .string ⟨#[]⟩, .slice none 0 0, .slice none 0 0, .int .i64 0, .string ⟨#[]⟩]) := by kernel_rfl
@[simp] theorem Tryz.zok318 : zokP Tryz.prog 318 = true := by kernel_rfl
@[simp] theorem Tryz.zbox318 : zbox Tryz.prog 318 = some ([.imm (.int .i64 0), .imm (.int .i64 0), .imm (.string ⟨#[]⟩), .sl [], .sl [], .sl [], .imm (.string ⟨#[]⟩), .sl [], .sl [], .imm (.int .i64 0), .imm (.string ⟨#[]⟩)], [none, none, none, none, some none, some none, some none, none, some none, some none, none, none]) := by kernel_rfl
@[simp] theorem Tryz.sz320 : szP Tryz.prog 320 = 6 := by kernel_rfl
@[simp] theorem Tryz.row320 : isRowT Tryz.prog 320 = true := by kernel_rfl
@[simp] theorem Tryz.inf320 : infP Tryz.prog 320 = true := by kernel_rfl
@[simp] theorem Tryz.und320 : undP Tryz.prog 320 = true := by kernel_rfl
@[simp] theorem Tryz.ifc320 : ifcP Tryz.prog 320 = false := by kernel_rfl
@[simp] theorem Tryz.zpl320 : zplP Tryz.prog 320 = some ([.int .i64 0, .string ⟨#[]⟩, .slice none 0 0, .slice none 0 0, .slice none 0 0, .bool false], [(0, 1), (1, 5)]) := by kernel_rfl
@[simp] theorem Tryz.fld320_0 : fldP Tryz.prog 320 0 = some (0, 3) := by kernel_rfl
@[simp] theorem Tryz.fld320_1 : fldP Tryz.prog 320 1 = some (1, 147) := by kernel_rfl
@[simp] theorem Tryz.by320 : bytesP Tryz.prog 320 = 104 := by kernel_rfl
@[simp] theorem Tryz.zero320 : zeroP Tryz.prog 320 = some (.agg #[.int .i64 0, .string ⟨#[]⟩, .slice none 0 0, .slice none 0 0, .slice none 0 0, .bool false]) := by kernel_rfl
@[simp] theorem Tryz.zok320 : zokP Tryz.prog 320 = true := by kernel_rfl
@[simp] theorem Tryz.zbox320 : zbox Tryz.prog 320 = some ([.imm (.int .i64 0), .imm (.string ⟨#[]⟩), .sl [], .sl [], .sl [], .imm (.bool false)], [none, none, none, some none, some none, some none, none]) := by kernel_rfl
@[simp] theorem Tryz.sz325 : szP Tryz.prog 325 = 2 := by kernel_rfl
@[simp] theorem Tryz.row325 : isRowT Tryz.prog 325 = true := by kernel_rfl
@[simp] theorem Tryz.inf325 : infP Tryz.prog 325 = true := by kernel_rfl
@[simp] theorem Tryz.und325 : undP Tryz.prog 325 = true := by kernel_rfl
@[simp] theorem Tryz.ifc325 : ifcP Tryz.prog 325 = false := by kernel_rfl
@[simp] theorem Tryz.eq325 : eqTP Tryz.prog 325 = true := by kernel_rfl
@[simp] theorem Tryz.typs325 : typsP Tryz.prog 325 = [9, 9] := by kernel_rfl
@[simp] theorem Tryz.zpl325 : zplP Tryz.prog 325 = some ([.string ⟨#[]⟩, .string ⟨#[]⟩], [(0, 1), (1, 1)]) := by kernel_rfl
@[simp] theorem Tryz.fld325_0 : fldP Tryz.prog 325 0 = some (0, 9) := by kernel_rfl
@[simp] theorem Tryz.fld325_1 : fldP Tryz.prog 325 1 = some (1, 9) := by kernel_rfl
@[simp] theorem Tryz.by325 : bytesP Tryz.prog 325 = 32 := by kernel_rfl
@[simp] theorem Tryz.zero325 : zeroP Tryz.prog 325 = some (.agg #[.string ⟨#[]⟩, .string ⟨#[]⟩]) := by kernel_rfl
@[simp] theorem Tryz.zok325 : zokP Tryz.prog 325 = true := by kernel_rfl
@[simp] theorem Tryz.zbox325 : zbox Tryz.prog 325 = some ([.imm (.string ⟨#[]⟩), .imm (.string ⟨#[]⟩)], [none, none, none]) := by kernel_rfl
@[simp] theorem Tryz.sz349 : szP Tryz.prog 349 = 2 := by kernel_rfl
@[simp] theorem Tryz.row349 : isRowT Tryz.prog 349 = true := by kernel_rfl
@[simp] theorem Tryz.inf349 : infP Tryz.prog 349 = true := by kernel_rfl
@[simp] theorem Tryz.und349 : undP Tryz.prog 349 = true := by kernel_rfl
@[simp] theorem Tryz.ifc349 : ifcP Tryz.prog 349 = false := by kernel_rfl
@[simp] theorem Tryz.eq349 : eqTP Tryz.prog 349 = true := by kernel_rfl
@[simp] theorem Tryz.typs349 : typsP Tryz.prog 349 = [9, 3] := by kernel_rfl
@[simp] theorem Tryz.zpl349 : zplP Tryz.prog 349 = some ([.string ⟨#[]⟩, .int .i64 0], [(0, 1), (1, 1)]) := by kernel_rfl
@[simp] theorem Tryz.fld349_0 : fldP Tryz.prog 349 0 = some (0, 9) := by kernel_rfl
@[simp] theorem Tryz.fld349_1 : fldP Tryz.prog 349 1 = some (1, 3) := by kernel_rfl
@[simp] theorem Tryz.by349 : bytesP Tryz.prog 349 = 24 := by kernel_rfl
@[simp] theorem Tryz.zero349 : zeroP Tryz.prog 349 = some (.agg #[.string ⟨#[]⟩, .int .i64 0]) := by kernel_rfl
@[simp] theorem Tryz.zok349 : zokP Tryz.prog 349 = true := by kernel_rfl
@[simp] theorem Tryz.zbox349 : zbox Tryz.prog 349 = some ([.imm (.string ⟨#[]⟩), .imm (.int .i64 0)], [none, none, none]) := by kernel_rfl
@[simp] theorem Tryz.sz352 : szP Tryz.prog 352 = 4 := by kernel_rfl
@[simp] theorem Tryz.row352 : isRowT Tryz.prog 352 = true := by kernel_rfl
@[simp] theorem Tryz.inf352 : infP Tryz.prog 352 = true := by kernel_rfl
@[simp] theorem Tryz.und352 : undP Tryz.prog 352 = true := by kernel_rfl
@[simp] theorem Tryz.ifc352 : ifcP Tryz.prog 352 = false := by kernel_rfl
@[simp] theorem Tryz.eq352 : eqTP Tryz.prog 352 = true := by kernel_rfl
@[simp] theorem Tryz.typs352 : typsP Tryz.prog 352 = [9, 9, 9, 9] := by kernel_rfl
@[simp] theorem Tryz.zpl352 : zplP Tryz.prog 352 = some ([.string ⟨#[]⟩, .string ⟨#[]⟩, .string ⟨#[]⟩, .string ⟨#[]⟩], [(0, 1), (1, 1), (2, 1), (3, 1)]) := by kernel_rfl
@[simp] theorem Tryz.fld352_0 : fldP Tryz.prog 352 0 = some (0, 9) := by kernel_rfl
@[simp] theorem Tryz.fld352_1 : fldP Tryz.prog 352 1 = some (1, 9) := by kernel_rfl
@[simp] theorem Tryz.fld352_2 : fldP Tryz.prog 352 2 = some (2, 9) := by kernel_rfl
@[simp] theorem Tryz.fld352_3 : fldP Tryz.prog 352 3 = some (3, 9) := by kernel_rfl
@[simp] theorem Tryz.by352 : bytesP Tryz.prog 352 = 64 := by kernel_rfl
@[simp] theorem Tryz.zero352 : zeroP Tryz.prog 352 = some (.agg #[.string ⟨#[]⟩, .string ⟨#[]⟩, .string ⟨#[]⟩, .string ⟨#[]⟩]) := by kernel_rfl
@[simp] theorem Tryz.zok352 : zokP Tryz.prog 352 = true := by kernel_rfl
@[simp] theorem Tryz.zbox352 : zbox Tryz.prog 352 = some ([.imm (.string ⟨#[]⟩), .imm (.string ⟨#[]⟩), .imm (.string ⟨#[]⟩), .imm (.string ⟨#[]⟩)], [none, none, none, none, none]) := by kernel_rfl
@[simp] theorem Tryz.sz394 : szP Tryz.prog 394 = 2 := by kernel_rfl
@[simp] theorem Tryz.row394 : isRowT Tryz.prog 394 = true := by kernel_rfl
@[simp] theorem Tryz.inf394 : infP Tryz.prog 394 = true := by kernel_rfl
@[simp] theorem Tryz.und394 : undP Tryz.prog 394 = true := by kernel_rfl
@[simp] theorem Tryz.ifc394 : ifcP Tryz.prog 394 = false := by kernel_rfl
@[simp] theorem Tryz.eq394 : eqTP Tryz.prog 394 = true := by kernel_rfl
@[simp] theorem Tryz.typs394 : typsP Tryz.prog 394 = [9, 9] := by kernel_rfl
@[simp] theorem Tryz.zpl394 : zplP Tryz.prog 394 = some ([.string ⟨#[]⟩, .string ⟨#[]⟩], [(0, 1), (1, 1)]) := by kernel_rfl
@[simp] theorem Tryz.fld394_0 : fldP Tryz.prog 394 0 = some (0, 9) := by kernel_rfl
@[simp] theorem Tryz.fld394_1 : fldP Tryz.prog 394 1 = some (1, 9) := by kernel_rfl
@[simp] theorem Tryz.by394 : bytesP Tryz.prog 394 = 32 := by kernel_rfl
@[simp] theorem Tryz.zero394 : zeroP Tryz.prog 394 = some (.agg #[.string ⟨#[]⟩, .string ⟨#[]⟩]) := by kernel_rfl
@[simp] theorem Tryz.zok394 : zokP Tryz.prog 394 = true := by kernel_rfl
@[simp] theorem Tryz.zbox394 : zbox Tryz.prog 394 = some ([.imm (.string ⟨#[]⟩), .imm (.string ⟨#[]⟩)], [none, none, none]) := by kernel_rfl
@[simp] theorem Tryz.sz396 : szP Tryz.prog 396 = 2 := by kernel_rfl
@[simp] theorem Tryz.row396 : isRowT Tryz.prog 396 = true := by kernel_rfl
@[simp] theorem Tryz.inf396 : infP Tryz.prog 396 = true := by kernel_rfl
@[simp] theorem Tryz.und396 : undP Tryz.prog 396 = true := by kernel_rfl
@[simp] theorem Tryz.ifc396 : ifcP Tryz.prog 396 = false := by kernel_rfl
@[simp] theorem Tryz.eq396 : eqTP Tryz.prog 396 = true := by kernel_rfl
@[simp] theorem Tryz.typs396 : typsP Tryz.prog 396 = [3, 9] := by kernel_rfl
@[simp] theorem Tryz.zpl396 : zplP Tryz.prog 396 = some ([.int .i64 0, .string ⟨#[]⟩], [(0, 1), (1, 1)]) := by kernel_rfl
@[simp] theorem Tryz.fld396_0 : fldP Tryz.prog 396 0 = some (0, 3) := by kernel_rfl
@[simp] theorem Tryz.fld396_1 : fldP Tryz.prog 396 1 = some (1, 9) := by kernel_rfl
@[simp] theorem Tryz.by396 : bytesP Tryz.prog 396 = 24 := by kernel_rfl
@[simp] theorem Tryz.zero396 : zeroP Tryz.prog 396 = some (.agg #[.int .i64 0, .string ⟨#[]⟩]) := by kernel_rfl
@[simp] theorem Tryz.zok396 : zokP Tryz.prog 396 = true := by kernel_rfl
@[simp] theorem Tryz.zbox396 : zbox Tryz.prog 396 = some ([.imm (.int .i64 0), .imm (.string ⟨#[]⟩)], [none, none, none]) := by kernel_rfl
end Go.Proofs.YtldnkeackphilaaGreatDoor
