/- What is proved: the facts of the program's types, as the machine asks for them. What is defined and proved: a reader of tokens, in plain words; what its small steps hand back, and what they turn. What is proved: what a reader's small steps hand back, and what they turn. What is defined and proved: the reader of expressions in plain words; which sign of a row stands at a place. What is defined and proved: expressions in plain words, and in the heap; a reader of expressions, in plain words. What is proved: what the reader's 'row' hands back. What is proved: what the reader's 'index' and 'fact' hand back; so what each reading of an expression does. What is proved: reading goes on; the reader of expressions answers, given steps enough. What is proved: what an append of one element does with a list of wide elements; no theorem of the program. What is defined and proved: a reader of bytes, in plain words; its small steps. What is defined and proved: the reader of bytes, in plain words; its walk. What is defined and proved: lists in rows that grow by one; the reader's 'items'. What is defined and proved: reading goes on; the reader's 'args'. What is defined and proved: branches and statements in plain words, and in the heap; a reader of statements, in plain words. What is proved: the reader's 'named'. What is proved: reading statements goes on. What is proved: the reader's 'stmts' and 'block', if its 'stmt' reads. What is proved: the reader's steps beside a variable of its own. What is proved: the reader's 'stmt', if its 'block' and 'branch' read. -/
import Derived.Test.YtpfjogcjmlhhfaaGreatDoorX3
import Derived.Test.YtpfjogcjmlhhfaaGreatDoorProg
set_option maxRecDepth 100000
set_option maxHeartbeats 4000000
set_option linter.unusedSimpArgs false
set_option linter.unusedVariables false
set_option linter.unusedSectionVars false
namespace Go.Vm
open Go.Proofs
@[simp] theorem size3:sizeT Tryz.prog 3=some 1:=by kernel_rfl
@[simp] theorem bytes3:bytesT Tryz.prog 3=some 8:=by kernel_rfl
@[simp] theorem agg3:aggT Tryz.prog 3=some false:=by kernel_rfl
@[simp] theorem zero3:zeroT Tryz.prog 3=some (.int .i64 0):=by kernel_rfl
@[simp] theorem kind4:kindT Tryz.prog 4=some .bool:=by kernel_rfl
@[simp] theorem size5:sizeT Tryz.prog 5=some 1:=by kernel_rfl
@[simp] theorem bytes5:bytesT Tryz.prog 5=some 1:=by kernel_rfl
@[simp] theorem agg5:aggT Tryz.prog 5=some false:=by kernel_rfl
@[simp] theorem zero5:zeroT Tryz.prog 5=some (.int .u8 0):=by kernel_rfl
@[simp] theorem size9:sizeT Tryz.prog 9=some 1:=by kernel_rfl
@[simp] theorem bytes9:bytesT Tryz.prog 9=some 16:=by kernel_rfl
@[simp] theorem agg9:aggT Tryz.prog 9=some false:=by kernel_rfl
@[simp] theorem kind9:kindT Tryz.prog 9=some .string:=by kernel_rfl
@[simp] theorem zero9 : zeroT Tryz.prog 9 = some (.string "".toByteArray) := by kernel_rfl
@[simp] theorem size22:sizeT Tryz.prog 22=some 1:=by kernel_rfl
@[simp] theorem agg22:aggT Tryz.prog 22=some false:=by kernel_rfl
@[simp] theorem kind22:kindT Tryz.prog 22=some .slice:=by kernel_rfl
@[simp] theorem elem22:elemT Tryz.prog 22=some 3:=by kernel_rfl
@[simp] theorem size24:sizeT Tryz.prog 24=some 1:=by kernel_rfl
@[simp] theorem agg24:aggT Tryz.prog 24=some false:=by kernel_rfl
@[simp] theorem kind24:kindT Tryz.prog 24=some .slice:=by kernel_rfl
@[simp] theorem elem24:elemT Tryz.prog 24=some 41:=by kernel_rfl
@[simp] theorem size25:sizeT Tryz.prog 25=some 1:=by kernel_rfl
@[simp] theorem agg25:aggT Tryz.prog 25=some false:=by kernel_rfl
@[simp] theorem kind25:kindT Tryz.prog 25=some .slice:=by kernel_rfl
@[simp] theorem elem25:elemT Tryz.prog 25=some 47:=by kernel_rfl
@[simp] theorem size26:sizeT Tryz.prog 26=some 1:=by kernel_rfl
@[simp] theorem agg26:aggT Tryz.prog 26=some false:=by kernel_rfl
@[simp] theorem kind26:kindT Tryz.prog 26=some .slice:=by kernel_rfl
@[simp] theorem elem26:elemT Tryz.prog 26=some 127:=by kernel_rfl
@[simp] theorem size27:sizeT Tryz.prog 27=some 1:=by kernel_rfl
@[simp] theorem agg27:aggT Tryz.prog 27=some false:=by kernel_rfl
@[simp] theorem kind27:kindT Tryz.prog 27=some .slice:=by kernel_rfl
@[simp] theorem elem27:elemT Tryz.prog 27=some 75:=by kernel_rfl
@[simp] theorem size29:sizeT Tryz.prog 29=some 5:=by kernel_rfl
@[simp] theorem agg29:aggT Tryz.prog 29=some true:=by kernel_rfl
@[simp] theorem field29_1:fieldT Tryz.prog 29 1=some (1,1,24):=by kernel_rfl
@[simp] theorem field29_2:fieldT Tryz.prog 29 2=some (2,1,25):=by kernel_rfl
@[simp] theorem field29_3:fieldT Tryz.prog 29 3=some (3,1,26):=by kernel_rfl
@[simp] theorem field29_4:fieldT Tryz.prog 29 4=some (4,1,27):=by kernel_rfl
@[simp] theorem places29:placesT Tryz.prog 29=some [(0,1),(1,1),(2,1),(3,1),(4,1)]:=by kernel_rfl
@[simp] theorem zero29 : zeroT Tryz.prog 29 = some (.agg #[.string "".toByteArray, .slice none 0 0, .slice none 0 0, .slice none 0 0, .slice none 0 0]) := by kernel_rfl
@[simp] theorem size30:sizeT Tryz.prog 30=some 1:=by kernel_rfl
@[simp] theorem agg30:aggT Tryz.prog 30=some false:=by kernel_rfl
@[simp] theorem kind30:kindT Tryz.prog 30=some .ptr:=by kernel_rfl
@[simp] theorem size34:sizeT Tryz.prog 34=some 1:=by kernel_rfl
@[simp] theorem agg34:aggT Tryz.prog 34=some false:=by kernel_rfl
@[simp] theorem kind34:kindT Tryz.prog 34=some .slice:=by kernel_rfl
@[simp] theorem elem34:elemT Tryz.prog 34=some 5:=by kernel_rfl
@[simp] theorem agg36:aggT Tryz.prog 36=some false:=by kernel_rfl
@[simp] theorem size38:sizeT Tryz.prog 38=some 2:=by kernel_rfl
@[simp] theorem agg38:aggT Tryz.prog 38=some true:=by kernel_rfl
@[simp] theorem field38_0:fieldT Tryz.prog 38 0=some (0,1,36):=by kernel_rfl
@[simp] theorem places38:placesT Tryz.prog 38=some [(0,1),(1,1)]:=by kernel_rfl
@[simp] theorem zero38:zeroT Tryz.prog 38=some (.agg #[.int .i64 0,.int .i64 0]):=by kernel_rfl
@[simp] theorem size41:sizeT Tryz.prog 41=some 4:=by kernel_rfl
@[simp] theorem bytes41:bytesT Tryz.prog 41=some 40:=by kernel_rfl
@[simp] theorem agg41:aggT Tryz.prog 41=some true:=by kernel_rfl
@[simp] theorem field41_0:fieldT Tryz.prog 41 0=some (0,1,3):=by kernel_rfl
@[simp] theorem field41_1:fieldT Tryz.prog 41 1=some (1,1,3):=by kernel_rfl
@[simp] theorem field41_2:fieldT Tryz.prog 41 2=some (2,1,9):=by kernel_rfl
@[simp] theorem field41_3:fieldT Tryz.prog 41 3=some (3,1,3):=by kernel_rfl
@[simp] theorem places41:placesT Tryz.prog 41=some [(0,1),(1,1),(2,1),(3,1)]:=by kernel_rfl
@[simp] theorem zero41 : zeroT Tryz.prog 41 = some (.agg #[.int .i64 0, .int .i64 0, .string "".toByteArray, .int .i64 0]) := by kernel_rfl
@[simp] theorem size45:sizeT Tryz.prog 45=some 1:=by kernel_rfl
@[simp] theorem agg45:aggT Tryz.prog 45=some false:=by kernel_rfl
@[simp] theorem kind45:kindT Tryz.prog 45=some .slice:=by kernel_rfl
@[simp] theorem elem45:elemT Tryz.prog 45=some 94:=by kernel_rfl
@[simp] theorem zero45:zeroT Tryz.prog 45=some (.slice none 0 0):=by kernel_rfl
@[simp] theorem size47:sizeT Tryz.prog 47=some 5:=by kernel_rfl
@[simp] theorem bytes47:bytesT Tryz.prog 47=some 96:=by kernel_rfl
@[simp] theorem agg47:aggT Tryz.prog 47=some true:=by kernel_rfl
@[simp] theorem field47_0:fieldT Tryz.prog 47 0=some (0,1,3):=by kernel_rfl
@[simp] theorem field47_1:fieldT Tryz.prog 47 1=some (1,1,9):=by kernel_rfl
@[simp] theorem field47_2:fieldT Tryz.prog 47 2=some (2,1,45):=by kernel_rfl
@[simp] theorem field47_3:fieldT Tryz.prog 47 3=some (3,1,45):=by kernel_rfl
@[simp] theorem field47_4:fieldT Tryz.prog 47 4=some (4,1,27):=by kernel_rfl
@[simp] theorem places47:placesT Tryz.prog 47=some [(0,1),(1,1),(2,1),(3,1),(4,1)]:=by kernel_rfl
@[simp] theorem zero47 : zeroT Tryz.prog 47 = some (.agg #[.int .i64 0, .string "".toByteArray, .slice none 0 0, .slice none 0 0, .slice none 0 0]) := by kernel_rfl
@[simp] theorem size51:sizeT Tryz.prog 51=some 1:=by kernel_rfl
@[simp] theorem agg51:aggT Tryz.prog 51=some false:=by kernel_rfl
@[simp] theorem kind51:kindT Tryz.prog 51=some .slice:=by kernel_rfl
@[simp] theorem elem51:elemT Tryz.prog 51=some 53:=by kernel_rfl
@[simp] theorem size53:sizeT Tryz.prog 53=some 6:=by kernel_rfl
@[simp] theorem bytes53:bytesT Tryz.prog 53=some 72:=by kernel_rfl
@[simp] theorem agg53:aggT Tryz.prog 53=some true:=by kernel_rfl
@[simp] theorem field53_0:fieldT Tryz.prog 53 0=some (0,1,3):=by kernel_rfl
@[simp] theorem field53_1:fieldT Tryz.prog 53 1=some (1,1,3):=by kernel_rfl
@[simp] theorem field53_3:fieldT Tryz.prog 53 3=some (3,1,3):=by kernel_rfl
@[simp] theorem field53_4:fieldT Tryz.prog 53 4=some (4,1,9):=by kernel_rfl
@[simp] theorem field53_5:fieldT Tryz.prog 53 5=some (5,1,51):=by kernel_rfl
@[simp] theorem places53:placesT Tryz.prog 53=some [(0,1),(1,1),(2,1),(3,1),(4,1),(5,1)]:=by kernel_rfl
@[simp] theorem zero53 : zeroT Tryz.prog 53 = some (.agg #[.int .i64 0, .int .i64 0, .int .i64 0, .int .i64 0, .string "".toByteArray, .slice none 0 0]) := by kernel_rfl
@[simp] theorem size62:sizeT Tryz.prog 62=some 24:=by kernel_rfl
@[simp] theorem arr62:arrT Tryz.prog 62=some (24,9):=by kernel_rfl
@[simp] theorem zero62 : zeroT Tryz.prog 62 = some (.agg #[.string "".toByteArray, .string "".toByteArray, .string "".toByteArray, .string "".toByteArray, .string "".toByteArray, .string "".toByteArray, .string "".toByteArray, .string "".toByteArray, .string "".toByteArray, .string "".toByteArray, .string "".toByteArray, .string "".toByteArray, .string "".toByteArray, .string "".toByteArray, .string "".toByteArray, .string "".toByteArray, .string "".toByteArray, .string "".toByteArray, .string "".toByteArray, .string "".toByteArray, .string "".toByteArray, .string "".toByteArray, .string "".toByteArray, .string "".toByteArray]) := by kernel_rfl
@[simp] theorem size68:sizeT Tryz.prog 68=some 1:=by kernel_rfl
@[simp] theorem bytes68:bytesT Tryz.prog 68=some 24:=by kernel_rfl
@[simp] theorem agg68:aggT Tryz.prog 68=some false:=by kernel_rfl
@[simp] theorem kind68:kindT Tryz.prog 68=some .slice:=by kernel_rfl
@[simp] theorem elem68:elemT Tryz.prog 68=some 9:=by kernel_rfl
@[simp] theorem zero68:zeroT Tryz.prog 68=some (.slice none 0 0):=by kernel_rfl
@[simp] theorem size70:sizeT Tryz.prog 70=some 4:=by kernel_rfl
@[simp] theorem field70_0:fieldT Tryz.prog 70 0=some (0,1,30):=by kernel_rfl
@[simp] theorem field70_1:fieldT Tryz.prog 70 1=some (1,1,3):=by kernel_rfl
@[simp] theorem field70_2:fieldT Tryz.prog 70 2=some (2,1,68):=by kernel_rfl
@[simp] theorem field70_3:fieldT Tryz.prog 70 3=some (3,1,9):=by kernel_rfl
@[simp] theorem places70:placesT Tryz.prog 70=some [(0,1),(1,1),(2,1),(3,1)]:=by kernel_rfl
@[simp] theorem zero70 : zeroT Tryz.prog 70 = some (.agg #[.pointer none, .int .i64 0, .slice none 0 0, .string "".toByteArray]) := by kernel_rfl
@[simp] theorem size73:sizeT Tryz.prog 73=some 1:=by kernel_rfl
@[simp] theorem agg73:aggT Tryz.prog 73=some false:=by kernel_rfl
@[simp] theorem kind73:kindT Tryz.prog 73=some .slice:=by kernel_rfl
@[simp] theorem elem73:elemT Tryz.prog 73=some 78:=by kernel_rfl
@[simp] theorem size75:sizeT Tryz.prog 75=some 8:=by kernel_rfl
@[simp] theorem bytes75:bytesT Tryz.prog 75=some 152:=by kernel_rfl
@[simp] theorem agg75:aggT Tryz.prog 75=some true:=by kernel_rfl
@[simp] theorem field75_0:fieldT Tryz.prog 75 0=some (0,1,3):=by kernel_rfl
@[simp] theorem field75_1:fieldT Tryz.prog 75 1=some (1,1,3):=by kernel_rfl
@[simp] theorem field75_2:fieldT Tryz.prog 75 2=some (2,1,9):=by kernel_rfl
@[simp] theorem field75_3:fieldT Tryz.prog 75 3=some (3,1,51):=by kernel_rfl
@[simp] theorem field75_4:fieldT Tryz.prog 75 4=some (4,1,27):=by kernel_rfl
@[simp] theorem field75_5:fieldT Tryz.prog 75 5=some (5,1,27):=by kernel_rfl
@[simp] theorem field75_6:fieldT Tryz.prog 75 6=some (6,1,73):=by kernel_rfl
@[simp] theorem field75_7:fieldT Tryz.prog 75 7=some (7,1,26):=by kernel_rfl
@[simp] theorem places75:placesT Tryz.prog 75=some [(0,1),(1,1),(2,1),(3,1),(4,1),(5,1),(6,1),(7,1)]:=by kernel_rfl
@[simp] theorem zero75 : zeroT Tryz.prog 75 = some (.agg #[.int .i64 0, .int .i64 0, .string "".toByteArray, .slice none 0 0, .slice none 0 0, .slice none 0 0, .slice none 0 0, .slice none 0 0]) := by kernel_rfl
@[simp] theorem size78:sizeT Tryz.prog 78=some 4:=by kernel_rfl
@[simp] theorem bytes78:bytesT Tryz.prog 78=some 72:=by kernel_rfl
@[simp] theorem agg78:aggT Tryz.prog 78=some true:=by kernel_rfl
@[simp] theorem field78_0:fieldT Tryz.prog 78 0=some (0,1,3):=by kernel_rfl
@[simp] theorem field78_1:fieldT Tryz.prog 78 1=some (1,1,9):=by kernel_rfl
@[simp] theorem field78_2:fieldT Tryz.prog 78 2=some (2,1,51):=by kernel_rfl
@[simp] theorem field78_3:fieldT Tryz.prog 78 3=some (3,1,26):=by kernel_rfl
@[simp] theorem places78:placesT Tryz.prog 78=some [(0,1),(1,1),(2,1),(3,1)]:=by kernel_rfl
@[simp] theorem zero78 : zeroT Tryz.prog 78 = some (.agg #[.int .i64 0, .string "".toByteArray, .slice none 0 0, .slice none 0 0]) := by kernel_rfl
@[simp] theorem agg79:aggT Tryz.prog 79=some false:=by kernel_rfl
@[simp] theorem size80:sizeT Tryz.prog 80=some 1:=by kernel_rfl
@[simp] theorem bytes80:bytesT Tryz.prog 80=some 8:=by kernel_rfl
@[simp] theorem agg80:aggT Tryz.prog 80=some false:=by kernel_rfl
@[simp] theorem zero80:zeroT Tryz.prog 80=some (.map none):=by kernel_rfl
@[simp] theorem size81:sizeT Tryz.prog 81=some 1:=by kernel_rfl
@[simp] theorem agg81:aggT Tryz.prog 81=some false:=by kernel_rfl
@[simp] theorem kind81:kindT Tryz.prog 81=some .slice:=by kernel_rfl
@[simp] theorem elem81:elemT Tryz.prog 81=some 80:=by kernel_rfl
@[simp] theorem size82:sizeT Tryz.prog 82=some 1:=by kernel_rfl
@[simp] theorem agg82:aggT Tryz.prog 82=some false:=by kernel_rfl
@[simp] theorem kind82:kindT Tryz.prog 82=some .slice:=by kernel_rfl
@[simp] theorem elem82:elemT Tryz.prog 82=some 202:=by kernel_rfl
@[simp] theorem size84:sizeT Tryz.prog 84=some 9:=by kernel_rfl
@[simp] theorem field84_0:fieldT Tryz.prog 84 0=some (0,1,79):=by kernel_rfl
@[simp] theorem field84_1:fieldT Tryz.prog 84 1=some (1,1,80):=by kernel_rfl
@[simp] theorem field84_2:fieldT Tryz.prog 84 2=some (2,1,81):=by kernel_rfl
@[simp] theorem field84_3:fieldT Tryz.prog 84 3=some (3,1,22):=by kernel_rfl
@[simp] theorem field84_4:fieldT Tryz.prog 84 4=some (4,1,82):=by kernel_rfl
@[simp] theorem field84_5:fieldT Tryz.prog 84 5=some (5,1,22):=by kernel_rfl
@[simp] theorem field84_6:fieldT Tryz.prog 84 6=some (6,1,22):=by kernel_rfl
@[simp] theorem field84_7:fieldT Tryz.prog 84 7=some (7,1,80):=by kernel_rfl
@[simp] theorem field84_8:fieldT Tryz.prog 84 8=some (8,1,3):=by kernel_rfl
@[simp] theorem places84:placesT Tryz.prog 84=some [(0,1),(1,1),(2,1),(3,1),(4,1),(5,1),(6,1),(7,1),(8,1)]:=by kernel_rfl
@[simp] theorem zero84:zeroT Tryz.prog 84=some (.agg #[.map none,.map none,.slice none 0 0,.slice none 0 0,.slice none 0 0,.slice none 0 0,.slice none 0 0,.map none,.int .i64 0]):=by kernel_rfl
@[simp] theorem agg86:aggT Tryz.prog 86=some false:=by kernel_rfl
@[simp] theorem kind86:kindT Tryz.prog 86=some .slice:=by kernel_rfl
@[simp] theorem elem86:elemT Tryz.prog 86=some 102:=by kernel_rfl
@[simp] theorem size91:sizeT Tryz.prog 91=some 4:=by kernel_rfl
@[simp] theorem field91_0:fieldT Tryz.prog 91 0=some (0,1,86):=by kernel_rfl
@[simp] theorem field91_1:fieldT Tryz.prog 91 1=some (1,1,3):=by kernel_rfl
@[simp] theorem field91_2:fieldT Tryz.prog 91 2=some (2,2,38):=by kernel_rfl
@[simp] theorem places91:placesT Tryz.prog 91=some [(0,1),(1,1),(2,2)]:=by kernel_rfl
@[simp] theorem zero91:zeroT Tryz.prog 91=some (.agg #[.slice none 0 0,.int .i64 0,.int .i64 0,.int .i64 0]):=by kernel_rfl
@[simp] theorem size94:sizeT Tryz.prog 94=some 2:=by kernel_rfl
@[simp] theorem bytes94:bytesT Tryz.prog 94=some 24:=by kernel_rfl
@[simp] theorem agg94:aggT Tryz.prog 94=some true:=by kernel_rfl
@[simp] theorem field94_0:fieldT Tryz.prog 94 0=some (0,1,3):=by kernel_rfl
@[simp] theorem field94_1:fieldT Tryz.prog 94 1=some (1,1,9):=by kernel_rfl
@[simp] theorem places94:placesT Tryz.prog 94=some [(0,1),(1,1)]:=by kernel_rfl
@[simp] theorem zero94 : zeroT Tryz.prog 94 = some (.agg #[.int .i64 0, .string "".toByteArray]) := by kernel_rfl
@[simp] theorem size102:sizeT Tryz.prog 102=some 4:=by kernel_rfl
@[simp] theorem bytes102:bytesT Tryz.prog 102=some 40:=by kernel_rfl
@[simp] theorem agg102:aggT Tryz.prog 102=some true:=by kernel_rfl
@[simp] theorem field102_0:fieldT Tryz.prog 102 0=some (0,1,3):=by kernel_rfl
@[simp] theorem field102_1:fieldT Tryz.prog 102 1=some (1,1,3):=by kernel_rfl
@[simp] theorem field102_2:fieldT Tryz.prog 102 2=some (2,1,3):=by kernel_rfl
@[simp] theorem field102_3:fieldT Tryz.prog 102 3=some (3,1,9):=by kernel_rfl
@[simp] theorem places102:placesT Tryz.prog 102=some [(0,1),(1,1),(2,1),(3,1)]:=by kernel_rfl
@[simp] theorem zero102 : zeroT Tryz.prog 102 = some (.agg #[.int .i64 0, .int .i64 0, .int .i64 0, .string "".toByteArray]) := by kernel_rfl
@[simp] theorem size110:sizeT Tryz.prog 110=some 1:=by kernel_rfl
@[simp] theorem agg110:aggT Tryz.prog 110=some false:=by kernel_rfl
@[simp] theorem kind110:kindT Tryz.prog 110=some .slice:=by kernel_rfl
@[simp] theorem elem110:elemT Tryz.prog 110=some 118:=by kernel_rfl
@[simp] theorem size111:sizeT Tryz.prog 111=some 1:=by kernel_rfl
@[simp] theorem agg111:aggT Tryz.prog 111=some false:=by kernel_rfl
@[simp] theorem elem111:elemT Tryz.prog 111=some 68:=by kernel_rfl
@[simp] theorem size113:sizeT Tryz.prog 113=some 6:=by kernel_rfl
@[simp] theorem field113_0:fieldT Tryz.prog 113 0=some (0,1,68):=by kernel_rfl
@[simp] theorem field113_1:fieldT Tryz.prog 113 1=some (1,1,110):=by kernel_rfl
@[simp] theorem field113_2:fieldT Tryz.prog 113 2=some (2,1,68):=by kernel_rfl
@[simp] theorem field113_3:fieldT Tryz.prog 113 3=some (3,1,22):=by kernel_rfl
@[simp] theorem field113_4:fieldT Tryz.prog 113 4=some (4,1,111):=by kernel_rfl
@[simp] theorem field113_5:fieldT Tryz.prog 113 5=some (5,1,22):=by kernel_rfl
@[simp] theorem places113:placesT Tryz.prog 113=some [(0,1),(1,1),(2,1),(3,1),(4,1),(5,1)]:=by kernel_rfl
@[simp] theorem zero113:zeroT Tryz.prog 113=some (.agg #[.slice none 0 0,.slice none 0 0,.slice none 0 0,.slice none 0 0,.slice none 0 0,.slice none 0 0]):=by kernel_rfl
@[simp] theorem size118:sizeT Tryz.prog 118=some 3:=by kernel_rfl
@[simp] theorem bytes118:bytesT Tryz.prog 118=some 24:=by kernel_rfl
@[simp] theorem agg118:aggT Tryz.prog 118=some true:=by kernel_rfl
@[simp] theorem field118_0:fieldT Tryz.prog 118 0=some (0,1,3):=by kernel_rfl
@[simp] theorem field118_2:fieldT Tryz.prog 118 2=some (2,1,3):=by kernel_rfl
@[simp] theorem places118:placesT Tryz.prog 118=some [(0,1),(1,1),(2,1)]:=by kernel_rfl
@[simp] theorem zero118:zeroT Tryz.prog 118=some (.agg #[.int .i64 0,.int .i64 0,.int .i64 0]):=by kernel_rfl
@[simp] theorem size121:sizeT Tryz.prog 121=some 6:=by kernel_rfl
@[simp] theorem field121_0:fieldT Tryz.prog 121 0=some (0,1,22):=by kernel_rfl
@[simp] theorem field121_1:fieldT Tryz.prog 121 1=some (1,1,3):=by kernel_rfl
@[simp] theorem field121_2:fieldT Tryz.prog 121 2=some (2,1,34):=by kernel_rfl
@[simp] theorem field121_3:fieldT Tryz.prog 121 3=some (3,1,3):=by kernel_rfl
@[simp] theorem field121_4:fieldT Tryz.prog 121 4=some (4,1,9):=by kernel_rfl
@[simp] theorem field121_5:fieldT Tryz.prog 121 5=some (5,1,3):=by kernel_rfl
@[simp] theorem places121:placesT Tryz.prog 121=some [(0,1),(1,1),(2,1),(3,1),(4,1),(5,1)]:=by kernel_rfl
@[simp] theorem zero121 : zeroT Tryz.prog 121 = some (.agg #[.slice none 0 0, .int .i64 0, .slice none 0 0, .int .i64 0, .string "".toByteArray, .int .i64 0]) := by kernel_rfl
@[simp] theorem size127:sizeT Tryz.prog 127=some 3:=by kernel_rfl
@[simp] theorem bytes127:bytesT Tryz.prog 127=some 32:=by kernel_rfl
@[simp] theorem agg127:aggT Tryz.prog 127=some true:=by kernel_rfl
@[simp] theorem field127_0:fieldT Tryz.prog 127 0=some (0,1,3):=by kernel_rfl
@[simp] theorem field127_1:fieldT Tryz.prog 127 1=some (1,1,9):=by kernel_rfl
@[simp] theorem field127_2:fieldT Tryz.prog 127 2=some (2,1,3):=by kernel_rfl
@[simp] theorem places127:placesT Tryz.prog 127=some [(0,1),(1,1),(2,1)]:=by kernel_rfl
@[simp] theorem zero127 : zeroT Tryz.prog 127 = some (.agg #[.int .i64 0, .string "".toByteArray, .int .i64 0]) := by kernel_rfl
@[simp] theorem size129:sizeT Tryz.prog 129=some 3:=by kernel_rfl
@[simp] theorem agg129:aggT Tryz.prog 129=some true:=by kernel_rfl
@[simp] theorem field129_0:fieldT Tryz.prog 129 0=some (0,1,3):=by kernel_rfl
@[simp] theorem field129_1:fieldT Tryz.prog 129 1=some (1,1,3):=by kernel_rfl
@[simp] theorem field129_2:fieldT Tryz.prog 129 2=some (2,1,3):=by kernel_rfl
@[simp] theorem places129:placesT Tryz.prog 129=some [(0,1),(1,1),(2,1)]:=by kernel_rfl
@[simp] theorem zero129:zeroT Tryz.prog 129=some (.agg #[.int .i64 0,.int .i64 0,.int .i64 0]):=by kernel_rfl
@[simp] theorem size143:sizeT Tryz.prog 143=some 0:=by kernel_rfl
@[simp] theorem places143:placesT Tryz.prog 143=some []:=by kernel_rfl
@[simp] theorem zero143:zeroT Tryz.prog 143=some (.agg #[]):=by kernel_rfl
@[simp] theorem size144:sizeT Tryz.prog 144=some 0:=by kernel_rfl
@[simp] theorem places144:placesT Tryz.prog 144=some []:=by kernel_rfl
@[simp] theorem zero144:zeroT Tryz.prog 144=some (.agg #[]):=by kernel_rfl
@[simp] theorem size145:sizeT Tryz.prog 145=some 0:=by kernel_rfl
@[simp] theorem agg145:aggT Tryz.prog 145=some true:=by kernel_rfl
@[simp] theorem places145:placesT Tryz.prog 145=some []:=by kernel_rfl
@[simp] theorem zero145:zeroT Tryz.prog 145=some (.agg #[]):=by kernel_rfl
@[simp] theorem size147:sizeT Tryz.prog 147=some 0:=by kernel_rfl
@[simp] theorem field147_0:fieldT Tryz.prog 147 0=some (0,0,145):=by kernel_rfl
@[simp] theorem places147:placesT Tryz.prog 147=some [(0,0)]:=by kernel_rfl
@[simp] theorem zero147:zeroT Tryz.prog 147=some (.agg #[]):=by kernel_rfl
@[simp] theorem size154:sizeT Tryz.prog 154=some 32:=by kernel_rfl
@[simp] theorem arr154:arrT Tryz.prog 154=some (32,9):=by kernel_rfl
@[simp] theorem zero154 : zeroT Tryz.prog 154 = some (.agg #[.string "".toByteArray, .string "".toByteArray, .string "".toByteArray, .string "".toByteArray, .string "".toByteArray, .string "".toByteArray, .string "".toByteArray, .string "".toByteArray, .string "".toByteArray, .string "".toByteArray, .string "".toByteArray, .string "".toByteArray, .string "".toByteArray, .string "".toByteArray, .string "".toByteArray, .string "".toByteArray, .string "".toByteArray, .string "".toByteArray, .string "".toByteArray, .string "".toByteArray, .string "".toByteArray, .string "".toByteArray, .string "".toByteArray, .string "".toByteArray, .string "".toByteArray, .string "".toByteArray, .string "".toByteArray, .string "".toByteArray, .string "".toByteArray, .string "".toByteArray, .string "".toByteArray, .string "".toByteArray]) := by kernel_rfl
@[simp] theorem elem159:elemT Tryz.prog 159=some 45:=by kernel_rfl
@[simp] theorem placesN162:placesT Tryz.prog 162=none:=by kernel_rfl
@[simp] theorem arr162:arrT Tryz.prog 162=some (2,9):=by kernel_rfl
@[simp] theorem zero162 : zeroT Tryz.prog 162 = some (.agg #[.string "".toByteArray, .string "".toByteArray]) := by kernel_rfl
@[simp] theorem placesN163:placesT Tryz.prog 163=none:=by kernel_rfl
@[simp] theorem arr163:arrT Tryz.prog 163=some (6,9):=by kernel_rfl
@[simp] theorem zero163 : zeroT Tryz.prog 163 = some (.agg #[.string "".toByteArray, .string "".toByteArray, .string "".toByteArray, .string "".toByteArray, .string "".toByteArray, .string "".toByteArray]) := by kernel_rfl
@[simp] theorem size175:sizeT Tryz.prog 175=some 13:=by kernel_rfl
@[simp] theorem arr175:arrT Tryz.prog 175=some (13,9):=by kernel_rfl
@[simp] theorem zero175 : zeroT Tryz.prog 175 = some (.agg #[.string "".toByteArray, .string "".toByteArray, .string "".toByteArray, .string "".toByteArray, .string "".toByteArray, .string "".toByteArray, .string "".toByteArray, .string "".toByteArray, .string "".toByteArray, .string "".toByteArray, .string "".toByteArray, .string "".toByteArray, .string "".toByteArray]) := by kernel_rfl
@[simp] theorem size176:sizeT Tryz.prog 176=some 13:=by kernel_rfl
@[simp] theorem arr176:arrT Tryz.prog 176=some (13,3):=by kernel_rfl
@[simp] theorem zero176:zeroT Tryz.prog 176=some (.agg #[.int .i64 0,.int .i64 0,.int .i64 0,.int .i64 0,.int .i64 0,.int .i64 0,.int .i64 0,.int .i64 0,.int .i64 0,.int .i64 0,.int .i64 0,.int .i64 0,.int .i64 0]):=by kernel_rfl
@[simp] theorem placesN183:placesT Tryz.prog 183=none:=by kernel_rfl
@[simp] theorem arr183:arrT Tryz.prog 183=some (3,9):=by kernel_rfl
@[simp] theorem zero183 : zeroT Tryz.prog 183 = some (.agg #[.string "".toByteArray, .string "".toByteArray, .string "".toByteArray]) := by kernel_rfl
@[simp] theorem size202:sizeT Tryz.prog 202=some 2:=by kernel_rfl
@[simp] theorem bytes202:bytesT Tryz.prog 202=some 16:=by kernel_rfl
@[simp] theorem places202:placesT Tryz.prog 202=some [(0,1),(1,1)]:=by kernel_rfl
@[simp] theorem zero202:zeroT Tryz.prog 202=some (.agg #[.int .i64 0,.int .i64 0]):=by kernel_rfl
end Go.Vm
namespace Go.Vm
theorem toList_beq (a b:ByteArray):(a.toList == b.toList)=decide (a=b):=by
 rw[ByteArray.toList_eq,ByteArray.toList_eq]
 obtain⟨⟨x⟩⟩:=a
 obtain⟨⟨y⟩⟩:=b
 show (x == y)=_
 by_cases h:x=y
 · subst h;simp
 · simp[h]
theorem Same.then_push {X:Nat→Prop}{A B:Heap}(k:Same X A B)(o:AObj):Same X A (B.push o):=k.trans (Same.push _ _ _)
theorem Same.then_set {X:Nat→Prop}{A B:Heap}(k:Same X A B){i:Nat}(hi:i<B.n)(hx:X i∨A.n≤i)(o:AObj):Same X A (B.set i o) :=
 ⟨k.n,fun j hj hnx=>by
  rw[Heap.get_set _ _ _ hi,if_neg (fun e=>by rcases hx with h | h;exact hnx (e ▸ h);omega)]
  exact k.get j hj hnx⟩
theorem Same.then {X Y:Nat→Prop}{A B C:Heap}(k:Same X A B)(k2:Same Y B C)(h:∀ i,Y i→X i∨A.n≤i):Same X A C :=
 ⟨Nat.le_trans k.n k2.n,fun j hj hnx=>by
  rw[k2.get j (Nat.lt_of_lt_of_le hj k.n) (fun hy=>by rcases h j hy with h1 | h1;exact hnx h1;omega)]
  exact k.get j hj hnx⟩
theorem Same.none {X:Nat→Prop}{H H':Heap}(k:Same (fun _=>False) H H'):Same X H H':=k.mono fun _ h=>h.elim
end Go.Vm
namespace Go.Vm.Parse
open Go Go.Proofs
attribute [local simp] repCells_succ writeAt rd_Fr
structure Plain (E:Hooks):Prop where
 no:∀ f,Nat.beq f 4=false→Nat.beq f 4=false→E.has f=false
structure Tk where
 kind:Int
 at_:Int
 num:Int
 text:ByteArray
def Tk.cells (t:Tk):List Value:=[.int .i64 t.kind,.int .i64 t.at_,.int .i64 t.num,.string t.text]
def Tk.v (t:Tk):Value := .agg ⟨t.cells⟩
def flatT:List Tk→List Value
 | []=>[]
 | t :: ts=>t.cells++flatT ts
theorem flatT_length:∀ l:List Tk,(flatT l).length=4 * l.length
 | []=>rfl
 | t :: ts=>by simp only[flatT,List.length_append,flatT_length ts,Tk.cells,List.length_cons,List.length_nil];omega
theorem flatT_get:∀ (l:List Tk)(p:Nat)(h:p<l.length),((flatT l).drop (p * 4)).take 4=l[p].cells
 | t :: ts,0,h=>by simp[flatT,Tk.cells]
 | t :: ts, p + 1, h => by
  have e:(p+1) * 4=t.cells.length+p * 4:=by simp[Tk.cells];omega
  simp only[flatT,List.getElem_cons_succ]
  rw[e,List.drop_append,List.drop_eq_nil_of_le (by omega),List.nil_append,show t.cells.length+p * 4 - t.cells.length=p * 4 by omega]
  exact flatT_get ts p (by simpa using h)
def endTk:Tk:=⟨5,0,0,ByteArray.empty⟩
structure PS where
 p:Nat
 c:Int
 a:Int
def tok (L:List Tk)(p:Nat):Tk:=L.getD p endTk
theorem tok_lt {L:List Tk}{p:Nat}(h:p<L.length):tok L p=L[p]:=by
 unfold tok;rw[List.getD_eq_getElem?_getD,List.getElem?_eq_getElem h];rfl
theorem tok_ge {L:List Tk}{p:Nat}(h:L.length≤p):tok L p=endTk:=by
 unfold tok;rw[List.getD_eq_getElem?_getD,List.getElem?_eq_none h];rfl
def isP (L:List Tk)(s:PS)(x:ByteArray):Bool:=decide (s.c=0∧((tok L s.p).kind=3∨(tok L s.p).kind=4)∧(tok L s.p).text=x)
def takeS (L:List Tk)(s:PS)(x:ByteArray):PS:=if isP L s x=true then { s with p:=s.p+1 }else s
def faultS (L:List Tk)(s:PS)(c:Int):PS:=if s.c=0 then { s with c:=c,a:=(tok L s.p).at_ }else s
def mustS (L:List Tk)(s:PS)(x:ByteArray):PS:=if isP L s x=true then { s with p:=s.p+1 }else faultS L s 14
structure RD (H:Heap)(r lid:Nat)(L:List Tk)(s:PS):Prop where
 obj:H.get r = .row true 0 1 [.slice (some ⟨lid,0,none⟩) L.length L.length,.int .i64 s.p,.int .i64 s.c,.int .i64 s.a]
 toks:∃ tl,H.get lid = .row true tl 4 (flatT L)
 small:L.length≤100000
 place:s.p≤L.length
theorem RD.ne {H:Heap}{r lid:Nat}{L:List Tk}{s:PS}(h:RD H r lid L s):lid≠r:=fun e=>by
 obtain⟨tl,h2⟩:=h.toks
 rw[e,h.obj]at h2
 cases h2
theorem RD.lt {H:Heap}{r lid:Nat}{L:List Tk}{s:PS}(h:RD H r lid L s):r<H.n:=Heap.lt_of_get h.obj (by simp)
theorem RD.same {H H':Heap}{r lid:Nat}{L:List Tk}{s:PS}(h:RD H r lid L s)(k:Same (fun _=>False) H H'):RD H' r lid L s:=by
 obtain⟨tl,h2⟩:=h.toks
 exact⟨k.at h.obj (by simp) (fun h=>h),⟨tl,k.at h2 (by simp) (fun h=>h)⟩,h.small,h.place⟩
theorem RD.turn {H:Heap}{r lid:Nat}{L:List Tk}{s:PS}(h:RD H r lid L s)(s':PS)(hp:s'.p≤L.length) :
  RD (H.set r (.row true 0 1 [.slice (some ⟨lid,0,none⟩) L.length L.length,.int .i64 s'.p,.int .i64 s'.c,.int .i64 s'.a])) r lid L s':=by
 obtain⟨tl,h2⟩:=h.toks
 exact⟨Heap.get_set_self _ _ h.lt,⟨tl,by rw[Heap.get_set _ _ _ h.lt,if_neg h.ne];exact h2⟩,h.small,hp⟩
section
variable {E:Hooks} (hE:Plain E)
include hE
theorem c_now (args:List Value)(H:Heap):(run Tryz.prog E).call 33 args H=callB Tryz.prog E Tryz.f33 args H:=call_B Tryz.func33 rfl (by decide +kernel) (hE.no _ rfl rfl) args H
theorem c_bad (args:List Value)(H:Heap):(run Tryz.prog E).call 35 args H=callB Tryz.prog E Tryz.f35 args H:=call_B Tryz.func35 rfl (by decide +kernel) (hE.no _ rfl rfl) args H
theorem c_fault (args:List Value)(H:Heap):(run Tryz.prog E).call 34 args H=callB Tryz.prog E Tryz.f34 args H:=call_B Tryz.func34 rfl (by decide +kernel) (hE.no _ rfl rfl) args H
theorem c_is (args:List Value)(H:Heap):(run Tryz.prog E).call 63 args H=callB Tryz.prog E Tryz.f63 args H:=call_B Tryz.func63 rfl (by decide +kernel) (hE.no _ rfl rfl) args H
theorem c_take (args:List Value)(H:Heap):(run Tryz.prog E).call 29 args H=callB Tryz.prog E Tryz.f29 args H:=call_B Tryz.func29 rfl (by decide +kernel) (hE.no _ rfl rfl) args H
theorem c_must (args:List Value)(H:Heap):(run Tryz.prog E).call 26 args H=callB Tryz.prog E Tryz.f26 args H:=call_B Tryz.func26 rfl (by decide +kernel) (hE.no _ rfl rfl) args H
theorem c_name (args:List Value)(H:Heap):(run Tryz.prog E).call 27 args H=callB Tryz.prog E Tryz.f27 args H:=call_B Tryz.func27 rfl (by decide +kernel) (hE.no _ rfl rfl) args H
theorem c_num (args:List Value)(H:Heap):(run Tryz.prog E).call 61 args H=callB Tryz.prog E Tryz.f61 args H:=call_B Tryz.func61 rfl (by decide +kernel) (hE.no _ rfl rfl) args H
theorem c_opens (args:List Value)(H:Heap):(run Tryz.prog E).call 92 args H=callB Tryz.prog E Tryz.f92 args H:=call_B Tryz.func92 rfl (by decide +kernel) (hE.no _ rfl rfl) args H
theorem c_op (args:List Value)(H:Heap):(run Tryz.prog E).call 93 args H=callB Tryz.prog E Tryz.f93 args H:=call_B Tryz.func93 rfl (by decide +kernel) (hE.no _ rfl rfl) args H
theorem c_row (args:List Value)(H:Heap):(run Tryz.prog E).call 77 args H=callB Tryz.prog E Tryz.f77 args H:=call_B Tryz.func77 rfl (by decide +kernel) (hE.no _ rfl rfl) args H
theorem c_fact (args:List Value)(H:Heap):(run Tryz.prog E).call 91 args H=callB Tryz.prog E Tryz.f91 args H:=call_B Tryz.func91 rfl (by decide +kernel) (hE.no _ rfl rfl) args H
theorem c_index (args:List Value)(H:Heap):(run Tryz.prog E).call 80 args H=callB Tryz.prog E Tryz.f80 args H:=call_B Tryz.func80 rfl (by decide +kernel) (hE.no _ rfl rfl) args H
theorem c_items (args:List Value)(H:Heap):(run Tryz.prog E).call 31 args H=callB Tryz.prog E Tryz.f31 args H:=call_B Tryz.func31 rfl (by decide +kernel) (hE.no _ rfl rfl) args H
theorem c_args (args:List Value)(H:Heap):(run Tryz.prog E).call 90 args H=callB Tryz.prog E Tryz.f90 args H:=call_B Tryz.func90 rfl (by decide +kernel) (hE.no _ rfl rfl) args H
theorem c_block (args:List Value)(H:Heap):(run Tryz.prog E).call 78 args H=callB Tryz.prog E Tryz.f78 args H:=call_B Tryz.func78 rfl (by decide +kernel) (hE.no _ rfl rfl) args H
theorem c_stmts (args:List Value)(H:Heap):(run Tryz.prog E).call 32 args H=callB Tryz.prog E Tryz.f32 args H:=call_B Tryz.func32 rfl (by decide +kernel) (hE.no _ rfl rfl) args H
theorem c_stmt (args:List Value)(H:Heap):(run Tryz.prog E).call 64 args H=callB Tryz.prog E Tryz.f64 args H:=call_B Tryz.func64 rfl (by decide +kernel) (hE.no _ rfl rfl) args H
theorem c_branch (args:List Value)(H:Heap):(run Tryz.prog E).call 79 args H=callB Tryz.prog E Tryz.f79 args H:=call_B Tryz.func79 rfl (by decide +kernel) (hE.no _ rfl rfl) args H
theorem c_named (args:List Value)(H:Heap):(run Tryz.prog E).call 76 args H=callB Tryz.prog E Tryz.f76 args H:=call_B Tryz.func76 rfl (by decide +kernel) (hE.no _ rfl rfl) args H
theorem c_size (args:List Value)(H:Heap):(run Tryz.prog E).call 62 args H=callB Tryz.prog E Tryz.f62 args H:=call_B Tryz.func62 rfl (by decide +kernel) (hE.no _ rfl rfl) args H
theorem c_decls (args:List Value)(H:Heap):(run Tryz.prog E).call 28 args H=callB Tryz.prog E Tryz.f28 args H:=call_B Tryz.func28 rfl (by decide +kernel) (hE.no _ rfl rfl) args H
theorem c_proc (args:List Value)(H:Heap):(run Tryz.prog E).call 30 args H=callB Tryz.prog E Tryz.f30 args H:=call_B Tryz.func30 rfl (by decide +kernel) (hE.no _ rfl rfl) args H
theorem c_Parse (args:List Value)(H:Heap):(run Tryz.prog E).call 12 args H=callB Tryz.prog E Tryz.f12 args H:=call_B Tryz.func12 rfl (by decide +kernel) (hE.no _ rfl rfl) args H
theorem c_All (args:List Value)(H:Heap):(run Tryz.prog E).call 25 args H=callB Tryz.prog E Tryz.f25 args H:=call_B Tryz.func25 rfl (by decide +kernel) (hE.no _ rfl rfl) args H
theorem c_letter (args:List Value)(H:Heap):(run Tryz.prog E).call 56 args H=callB Tryz.prog E Tryz.f56 args H:=call_B Tryz.func56 rfl (by decide +kernel) (hE.no _ rfl rfl) args H
theorem c_digit (args:List Value)(H:Heap):(run Tryz.prog E).call 57 args H=callB Tryz.prog E Tryz.f57 args H:=call_B Tryz.func57 rfl (by decide +kernel) (hE.no _ rfl rfl) args H
theorem c_number (args:List Value)(H:Heap):(run Tryz.prog E).call 59 args H=callB Tryz.prog E Tryz.f59 args H:=call_B Tryz.func59 rfl (by decide +kernel) (hE.no _ rfl rfl) args H
theorem c_sign (args:List Value)(H:Heap):(run Tryz.prog E).call 60 args H=callB Tryz.prog E Tryz.f60 args H:=call_B Tryz.func60 rfl (by decide +kernel) (hE.no _ rfl rfl) args H
theorem c_Word (args:List Value)(H:Heap):(run Tryz.prog E).call 58 args H=callB Tryz.prog E Tryz.f58 args H:=call_B Tryz.func58 rfl (by decide +kernel) (hE.no _ rfl rfl) args H
end
end Go.Vm.Parse
namespace Go.Vm.Parse
open Go Go.Proofs
attribute [local simp] repCells_succ writeAt rd_Fr toList_beq
theorem q_now0:quiet Tryz.prog (drawN Tryz.f33 0)=true:=by decide +kernel
theorem q_num0:quiet Tryz.prog (drawN Tryz.f61 0)=true:=by decide +kernel
theorem q_now1:quiet Tryz.prog (drawN Tryz.f33 1)=true:=by decide +kernel
theorem RD.get_push {H:Heap}{r lid:Nat}{L:List Tk}{s:PS}(h:RD H r lid L s)(o:AObj):(H.push o).get r = .row true 0 1 [.slice (some ⟨lid,0,none⟩) L.length L.length,.int .i64 s.p,.int .i64 s.c,.int .i64 s.a]:=by
 rw[Heap.get_push,if_neg (Nat.ne_of_lt h.lt)];exact h.obj
theorem tok_ge_kind {L:List Tk}{p:Nat}(h:(tok L p).kind≠5):p<L.length:=by
 rcases Nat.lt_or_ge p L.length with h1 | h1
 · exact h1
 · rw[tok_ge h1]at h;exact absurd rfl h
section
variable {E:Hooks} (hE:Plain E) {H:Heap} {r lid:Nat} {L:List Tk} {s:PS} (h:RD H r lid L s)
include hE h
theorem now_run:∃ H',(run Tryz.prog E).call 33 [.pointer (some ⟨r,0,none⟩)] H=some (.val (tok L s.p).v,H')∧Same (fun _=>False) H H':=by
 obtain⟨tl,ht⟩:=h.toks
 have hsm:=h.small
 have hpl:=h.place
 have hl:=Heap.lt_of_get ht (by simp)
 have g1:=h.get_push
 have g2:∀ o,(H.push o).get lid = .row true tl 4 (flatT L):=fun o=>by
  rw[Heap.get_push,if_neg (by omega)];exact ht
 have key:Gives ((run Tryz.prog E).call 33 [.pointer (some ⟨r,0,none⟩)] H) fun o H'=>o = .val (tok L s.p).v∧Same (fun _=>False) H H':=by
  rw[c_now hE,callB,bodyOf]
  simp[Tryz.f33]
  refine region_quiet (by exact q_now0) ?_
  rcases Nat.lt_or_ge s.p L.length with hp | hp
  · simp[g1,show ¬(s.p:Int)<0 by omega,show ¬L.length≤s.p by omega]
    refine region_quiet (by exact q_now1) ?_
    have hlen:=flatT_length L
    have hget:=flatT_get L s.p hp
    simp[g1,g2,hp,hlen,hget,show s.p * 4+4≤4 * L.length by omega,tok_lt hp,Tk.v,Tk.cells,Heap.get_push_self]
    exact Same.push _ _ _
  · simp[g1,show ¬(s.p:Int)<0 by omega,hp,tok_ge hp,endTk,Tk.v,Tk.cells,Heap.get_push_self]
    exact Same.push _ _ _
 obtain⟨o,H',e,rfl,k⟩:=key
 exact⟨H',e,k⟩
theorem bad_run:(run Tryz.prog E).call 35 [.pointer (some ⟨r,0,none⟩)] H=some (.val (.bool (!decide (s.c=0))),H):=by
 have hobj:=h.obj
 rw[c_bad hE,callB,bodyOf]
 simp[Tryz.f35,hobj]
theorem is_run (x:ByteArray):∃ H',(run Tryz.prog E).call 63 [.pointer (some ⟨r,0,none⟩),.string x] H=some (.val (.bool (isP L s x)),H')∧Same (fun _=>False) H H':=by
 obtain⟨H1,e1,k1⟩:=now_run hE h
 have h2:=(h.same k1).same (Same.push _ _ (.row true 0 1 (tok L s.p).cells))
 have e2:=bad_run hE h2
 refine⟨H1.push (.row true 0 1 (tok L s.p).cells),?_,k1.then_push _⟩
 have key:Gives ((run Tryz.prog E).call 63 [.pointer (some ⟨r,0,none⟩),.string x] H) fun o H'=>o = .val (.bool (isP L s x))∧H'=H1.push (.row true 0 1 (tok L s.p).cells):=by
  rw[c_is hE,callB,bodyOf]
  generalize htk:tok L s.p=tk at *
  unfold isP
  rw[htk]
  simp only[Tk.v,Tk.cells]at e1 e2 ⊢
  simp[Tryz.f63,e1,Heap.get_push_self,e2]
  by_cases hc:s.c=0
  · by_cases hk:tk.kind=3
    · simp[hc,hk,Heap.get_push_self]
    · by_cases hk4:tk.kind=4
      · simp[hc,hk,hk4,Heap.get_push_self]
      · simp[hc,hk,hk4,Heap.get_push_self]
  · simp[hc,Heap.get_push_self]
 obtain⟨o,H',e,rfl,rfl⟩:=key
 exact e
theorem take_run (x:ByteArray):∃ H',(run Tryz.prog E).call 29 [.pointer (some ⟨r,0,none⟩),.string x] H=some (.val (.bool (isP L s x)),H')∧Same (·=r) H H'∧RD H' r lid L (takeS L s x):=by
 obtain⟨H1,e1,k1⟩:=is_run hE h x
 have h1:=h.same k1
 have hobj:=h1.obj
 have hsm:=h.small
 by_cases hi:isP L s x=true
 · have hlt:s.p<L.length:=tok_ge_kind (by
    unfold isP at hi
    simp only[decide_eq_true_eq]at hi
    rcases hi.2.1 with h | h<;>omega)
   have h2:=h1.turn { s with p:=s.p+1 } (by show s.p+1≤_;omega)
   have key:Gives ((run Tryz.prog E).call 29 [.pointer (some ⟨r,0,none⟩),.string x] H) fun o H'=>o = .val (.bool (isP L s x))∧H'=H1.set r (.row true 0 1 [.slice (some ⟨lid,0,none⟩) L.length L.length,.int .i64 ((s.p+1:Nat):Int),.int .i64 s.c,.int .i64 s.a]):=by
    rw[c_take hE,callB,bodyOf]
    rw[hi]at e1 ⊢
    have hw:=wrap64 ((s.p:Int)+1) (by omega) (by omega)
    simp[Tryz.f29,e1,hobj,hw]
   obtain⟨o,H',e,rfl,rfl⟩:=key
   exact⟨_,e,(Same.none (X:=(·=r)) k1).then_set h1.lt (.inl rfl) _,by unfold takeS;rw[if_pos hi];exact h2⟩
 · have hf:isP L s x=false:=by simpa using hi
   refine⟨H1,?_,Same.none k1,by unfold takeS;rw[if_neg hi];exact h1⟩
   have key:Gives ((run Tryz.prog E).call 29 [.pointer (some ⟨r,0,none⟩),.string x] H) fun o H'=>o = .val (.bool (isP L s x))∧H'=H1:=by
    rw[c_take hE,callB,bodyOf]
    rw[hf]at e1 ⊢
    simp[Tryz.f29,e1]
   obtain⟨o,H',e,rfl,rfl⟩:=key
   exact e
theorem fault_run (c:Int):∃ H',(run Tryz.prog E).call 34 [.pointer (some ⟨r,0,none⟩),.int .i64 c] H=some (.val (.tuple #[]),H')∧Same (·=r) H H'∧RD H' r lid L (faultS L s c):=by
 have e0:=bad_run hE h
 by_cases hc:s.c=0
 · obtain⟨H1,e1,k1⟩:=now_run hE h
   have h1:=h.same k1
   have hobj:=h1.obj
   have h2:=h1.turn { s with c:=c,a:=(tok L s.p).at_ } h.place
   have key:Gives ((run Tryz.prog E).call 34 [.pointer (some ⟨r,0,none⟩),.int .i64 c] H) fun o H'=>o = .val (.tuple #[])∧H'=H1.set r (.row true 0 1 [.slice (some ⟨lid,0,none⟩) L.length L.length,.int .i64 s.p,.int .i64 c,.int .i64 (tok L s.p).at_]):=by
    rw[c_fault hE,callB,bodyOf]
    simp only[Tk.v,Tk.cells]at e1
    simp[Tryz.f34,e0,e1,hc,hobj]
   obtain⟨o,H',e,rfl,rfl⟩:=key
   exact⟨_,e,(Same.none (X:=(·=r)) k1).then_set h1.lt (.inl rfl) _,by unfold faultS;rw[if_pos hc];exact h2⟩
 · refine⟨H,?_,Same.refl _ _,by unfold faultS;rw[if_neg hc];exact h⟩
   have key:Gives ((run Tryz.prog E).call 34 [.pointer (some ⟨r,0,none⟩),.int .i64 c] H) fun o H'=>o = .val (.tuple #[])∧H'=H:=by
    rw[c_fault hE,callB,bodyOf]
    simp[Tryz.f34,e0,hc]
   obtain⟨o,H',e,rfl,rfl⟩:=key
   exact e
theorem must_run (x:ByteArray):∃ H',(run Tryz.prog E).call 26 [.pointer (some ⟨r,0,none⟩),.string x] H=some (.val (.tuple #[]),H')∧Same (·=r) H H'∧RD H' r lid L (mustS L s x):=by
 obtain⟨H1,e1,k1,h1⟩:=take_run hE h x
 by_cases hi:isP L s x=true
 · refine⟨H1,?_,k1,by unfold mustS;unfold takeS at h1;rw[if_pos hi]at h1 ⊢;exact h1⟩
   have key:Gives ((run Tryz.prog E).call 26 [.pointer (some ⟨r,0,none⟩),.string x] H) fun o H'=>o = .val (.tuple #[])∧H'=H1:=by
    rw[c_must hE,callB,bodyOf]
    rw[hi]at e1
    simp[Tryz.f26,e1]
   obtain⟨o,H',e,rfl,rfl⟩:=key
   exact e
 · have hf:isP L s x=false:=by simpa using hi
   have h1':RD H1 r lid L s:=by unfold takeS at h1;rw[if_neg hi]at h1;exact h1
   obtain⟨H2,e2,k2,h2⟩:=fault_run hE h1' 14
   refine⟨H2,?_,k1.trans k2,by unfold mustS;rw[if_neg hi];exact h2⟩
   have key:Gives ((run Tryz.prog E).call 26 [.pointer (some ⟨r,0,none⟩),.string x] H) fun o H'=>o = .val (.tuple #[])∧H'=H2:=by
    rw[c_must hE,callB,bodyOf]
    rw[hf]at e1
    simp[Tryz.f26,e1,e2]
   obtain⟨o,H',e,rfl,rfl⟩:=key
   exact e
end
structure Idn where
 at_:Int
 name:ByteArray
def Idn.cells (x:Idn):List Value:=[.int .i64 x.at_,.string x.name]
def nameP (L:List Tk)(s:PS):Idn:=if s.c=0∧(tok L s.p).kind=1 then ⟨(tok L s.p).at_,(tok L s.p).text⟩else ⟨0,ByteArray.empty⟩
def nameS (L:List Tk)(s:PS):PS:=if s.c=0∧(tok L s.p).kind=1 then { s with p:=s.p+1 }else faultS L s 14
def numP (L:List Tk)(s:PS):Int × Int:=if s.c=0∧(tok L s.p).kind=2 then ((tok L s.p).num,(tok L s.p).at_)else (0,0)
def numS (L:List Tk)(s:PS):PS:=if s.c=0∧(tok L s.p).kind=2 then { s with p:=s.p+1 }else faultS L s 14
def opensS (L:List Tk)(s:PS)(lv:Int):PS:=if 24<lv then faultS L s 15 else s
theorem RD.set_new {H:Heap}{r lid:Nat}{L:List Tk}{s:PS}(h:RD H r lid L s){i:Nat}(hi:i<H.n)(o:AObj)(hg:∀ tl es cs,H.get i = .row true tl es cs→es=1∧cs.length=2):RD (H.set i o) r lid L s:=by
 obtain⟨tl,ht⟩:=h.toks
 refine⟨?_,⟨tl,?_⟩,h.small,h.place⟩
 · rw[Heap.get_set _ _ _ hi,if_neg (fun e=>by subst e;have:=(hg _ _ _ h.obj).2;simp at this)];exact h.obj
 · rw[Heap.get_set _ _ _ hi,if_neg (fun e=>by subst e;have:=(hg _ _ _ ht).1;omega)];exact ht
section
variable {E:Hooks} (hE:Plain E) {H:Heap} {r lid:Nat} {L:List Tk} {s:PS} (h:RD H r lid L s)
include hE h
theorem name_run:∃ H',(run Tryz.prog E).call 27 [.pointer (some ⟨r,0,none⟩)] H=some (.val (.agg ⟨(nameP L s).cells⟩),H')∧Same (·=r) H H'∧RD H' r lid L (nameS L s):=by
 have h0:=h.same (Same.push _ _ (.row true 0 1 [.int .i64 0,.string ByteArray.empty]))
 obtain⟨H1,e1,k1⟩:=now_run hE h0
 have g1:H1.get H.n = .row true 0 1 [.int .i64 0,.string ByteArray.empty]:=k1.at (Heap.get_push_self _ _) (by simp) (fun h=>h)
 have hn1:H.n<H1.n:=by have:=k1.n;simp at this;omega
 have h2:=(h0.same k1).same (Same.push _ _ (.row true 0 1 (tok L s.p).cells))
 have e2:=bad_run hE h2
 have g2:(H1.push (.row true 0 1 (tok L s.p).cells)).get H.n = .row true 0 1 [.int .i64 0,.string ByteArray.empty]:=by rw[Heap.get_push,if_neg (by omega)];exact g1
 have g3:(H1.push (.row true 0 1 (tok L s.p).cells)).get H1.n = .row true 0 1 (tok L s.p).cells:=Heap.get_push_self _ _
 have kk:Same (·=r) H (H1.push (.row true 0 1 (tok L s.p).cells)):=(Same.none ((Same.push _ _ _).trans (k1.then_push _)))
 have hn2:(H1.push (.row true 0 1 (tok L s.p).cells)).n=H1.n+1:=rfl
 have hr1:r<H.n:=h.lt
 have hobj:=h2.obj
 have hsm:=h.small
 suffices key:Gives ((run Tryz.prog E).call 27 [.pointer (some ⟨r,0,none⟩)] H) fun o H'=>o = .val (.agg ⟨(nameP L s).cells⟩)∧Same (·=r) H H'∧RD H' r lid L (nameS L s) by
  obtain⟨o,H',e,rfl,k⟩:=key
  exact⟨H',e,k⟩
 rw[c_name hE,callB,bodyOf]
 by_cases hc:s.c=0∧(tok L s.p).kind=1
 · have hlt:s.p<L.length:=tok_ge_kind (by omega)
   have h3:=h2.turn { s with p:=s.p+1 } (by show s.p+1≤_;omega)
   have hnp:nameP L s=⟨(tok L s.p).at_,(tok L s.p).text⟩:=by unfold nameP;rw[if_pos hc]
   have hns:nameS L s={ s with p:=s.p+1 }:=by unfold nameS;rw[if_pos hc]
   rw[hnp,hns]
   generalize htk:tok L s.p=tk at *
   have hw:=wrap64 ((s.p:Int)+1) (by omega) (by omega)
   have hk1:decide (tk.kind=1)=true:=by simpa using hc.2
   simp only[Tk.v,Tk.cells,Idn.cells]at *
   simp[Tryz.f27,e1]
   generalize hH2:H1.push (.row true 0 1 [.int .i64 tk.kind,.int .i64 tk.at_,.int .i64 tk.num,.string tk.text])=H2 at *
   have gs:∀ o j,(H2.set r o).get j=if j=r then o else H2.get j:=fun o j=>Heap.get_set H2 r o (by omega) j
   have gs2:∀ o o' j,((H2.set r o).set H.n o').get j=if j=H.n then o' else (H2.set r o).get j:=fun o o' j=>Heap.get_set _ H.n o' (by simp;omega) j
   simp[e2,g3,hc.1,hk1,hobj,hw,gs,gs2,show ¬H1.n=r by omega,show ¬H.n=r by omega,g2]
   refine⟨(kk.then_set (by omega) (.inl rfl) _).then_set (by simp;omega) (.inr (Nat.le_refl _)) _,?_⟩
   rw[hc.1]at h3
   exact h3.set_new (by simp;omega) _ fun tl es cs hg=>by
    rw[gs,if_neg (by omega),g2]at hg
    cases hg;exact⟨rfl,rfl⟩
 · have hnp:nameP L s=⟨0,ByteArray.empty⟩:=by unfold nameP;rw[if_neg hc]
   have hns:nameS L s=faultS L s 14:=by unfold nameS;rw[if_neg hc]
   obtain⟨H3,e3,k3,h3⟩:=fault_run hE h2 14
   have g4:H3.get H.n = .row true 0 1 [.int .i64 0,.string ByteArray.empty]:=k3.at g2 (by simp) (by omega)
   have hn3:=k3.n
   rw[hnp,hns]
   generalize htk:tok L s.p=tk at *
   simp only[Tk.v,Tk.cells,Idn.cells]at *
   simp[Tryz.f27,e1]
   generalize hH2:H1.push (.row true 0 1 [.int .i64 tk.kind,.int .i64 tk.at_,.int .i64 tk.num,.string tk.text])=H2 at *
   have gs:∀ o j,(H3.set H.n o).get j=if j=H.n then o else H3.get j:=fun o j=>Heap.get_set H3 H.n o (by omega) j
   have fin:Same (·=r) H (H3.set H.n (.row true 0 1 [.int .i64 0,.string ByteArray.empty]))∧RD (H3.set H.n (.row true 0 1 [.int .i64 0,.string ByteArray.empty])) r lid L (faultS L s 14) :=
    ⟨(kk.trans k3).then_set (by omega) (.inr (Nat.le_refl _)) _, h3.set_new (by omega) _ fun tl es cs hg => by
      rw[g4]at hg
      cases hg;exact⟨rfl,rfl⟩⟩
   by_cases h0:s.c=0
   · have hk:¬tk.kind=1:=fun e=>hc ⟨h0,e⟩
     simp[e2,g3,h0,hk,e3,g4,gs]
     exact fin
   · simp[e2,g3,h0,e3,g4,gs]
     exact fin
theorem num_run:∃ H',(run Tryz.prog E).call 61 [.pointer (some ⟨r,0,none⟩)] H=some (.val (.tuple #[.int .i64 (numP L s).1,.int .i64 (numP L s).2]),H')∧Same (·=r) H H'∧RD H' r lid L (numS L s):=by
 obtain⟨H1,e1,k1⟩:=now_run hE h
 have h2:=(h.same k1).same (Same.push _ _ (.row true 0 1 (tok L s.p).cells))
 have e2:=bad_run hE h2
 have g3:(H1.push (.row true 0 1 (tok L s.p).cells)).get H1.n = .row true 0 1 (tok L s.p).cells:=Heap.get_push_self _ _
 have kk:Same (·=r) H (H1.push (.row true 0 1 (tok L s.p).cells)):=Same.none (k1.then_push _)
 have hn2:(H1.push (.row true 0 1 (tok L s.p).cells)).n=H1.n+1:=rfl
 have hr1:r<H.n:=h.lt
 have hn1:=k1.n
 have hobj:=h2.obj
 have hsm:=h.small
 suffices key:Gives ((run Tryz.prog E).call 61 [.pointer (some ⟨r,0,none⟩)] H) fun o H'=>o = .val (.tuple #[.int .i64 (numP L s).1,.int .i64 (numP L s).2])∧Same (·=r) H H'∧RD H' r lid L (numS L s) by
  obtain⟨o,H',e,rfl,k⟩:=key
  exact⟨H',e,k⟩
 rw[c_num hE,callB,bodyOf]
 by_cases hc:s.c=0∧(tok L s.p).kind=2
 · have hlt:s.p<L.length:=tok_ge_kind (by omega)
   have h3:=h2.turn { s with p:=s.p+1 } (by show s.p+1≤_;omega)
   have hnp:numP L s=((tok L s.p).num,(tok L s.p).at_):=by unfold numP;rw[if_pos hc]
   have hns:numS L s={ s with p:=s.p+1 }:=by unfold numS;rw[if_pos hc]
   rw[hnp,hns]
   generalize htk:tok L s.p=tk at *
   have hw:=wrap64 ((s.p:Int)+1) (by omega) (by omega)
   have hk1:decide (tk.kind=2)=true:=by simpa using hc.2
   simp only[Tk.v,Tk.cells]at *
   simp[Tryz.f61,e1]
   generalize hH2:H1.push (.row true 0 1 [.int .i64 tk.kind,.int .i64 tk.at_,.int .i64 tk.num,.string tk.text])=H2 at *
   have gs:∀ o j,(H2.set r o).get j=if j=r then o else H2.get j:=fun o j=>Heap.get_set H2 r o (by omega) j
   simp[e2,g3,hc.1,hk1,hobj,hw,gs,show ¬H1.n=r by omega]
   refine region_quiet (by exact q_num0) ?_
   simp[g3,gs,show ¬H1.n=r by omega]
   rw[hc.1]at h3
   exact⟨kk.then_set (by omega) (.inl rfl) _,h3⟩
 · have hnp:numP L s=(0,0):=by unfold numP;rw[if_neg hc]
   have hns:numS L s=faultS L s 14:=by unfold numS;rw[if_neg hc]
   obtain⟨H3,e3,k3,h3⟩:=fault_run hE h2 14
   rw[hnp,hns]
   generalize htk:tok L s.p=tk at *
   simp only[Tk.v,Tk.cells]at *
   simp[Tryz.f61,e1]
   generalize hH2:H1.push (.row true 0 1 [.int .i64 tk.kind,.int .i64 tk.at_,.int .i64 tk.num,.string tk.text])=H2 at *
   by_cases h0:s.c=0
   · have hk:¬tk.kind=2:=fun e=>hc ⟨h0,e⟩
     simp[e2,g3,h0,hk,e3]
     exact⟨kk.trans k3,h3⟩
   · simp[e2,g3,h0,e3]
     exact⟨kk.trans k3,h3⟩
theorem opens_run (lv:Int):∃ H',(run Tryz.prog E).call 92 [.pointer (some ⟨r,0,none⟩),.int .i64 lv] H=some (.val (.bool (decide ((opensS L s lv).c=0))),H')∧Same (·=r) H H'∧RD H' r lid L (opensS L s lv):=by
 suffices key:Gives ((run Tryz.prog E).call 92 [.pointer (some ⟨r,0,none⟩),.int .i64 lv] H) fun o H'=>o = .val (.bool (decide ((opensS L s lv).c=0)))∧Same (·=r) H H'∧RD H' r lid L (opensS L s lv) by
  obtain⟨o,H',e,rfl,k⟩:=key
  exact⟨H',e,k⟩
 rw[c_opens hE,callB,bodyOf]
 by_cases hc:24<lv
 · obtain⟨H3,e3,k3,h3⟩:=fault_run hE h 15
   have e4:=bad_run hE h3
   have hns:opensS L s lv=faultS L s 15:=by unfold opensS;rw[if_pos hc]
   rw[hns]
   simp[Tryz.f92,hc,e3,e4]
   exact⟨k3,h3⟩
 · have e4:=bad_run hE h
   have hns:opensS L s lv=s:=by unfold opensS;rw[if_neg hc]
   rw[hns]
   simp[Tryz.f92,hc,e4]
   exact⟨Same.refl _ _,h⟩
end
end Go.Vm.Parse
namespace Go.Vm.Parse
open Go Go.Proofs
attribute [local simp] repCells_succ writeAt rd_Fr toList_beq gpe gpn spe gse gsn ne_r0 ne_l0 le_s0 ne_r1 ne_l1 lt_s1 le_s1 ne_r2 ne_l2 lt_s2 le_s2 ne_r3 ne_l3 lt_s3 le_s3 ne_r4 ne_l4 lt_s4 le_s4 ne_r5 ne_l5 lt_s5 le_s5 ne_r6 ne_l6 lt_s6 le_s6 ne_r7 ne_l7 lt_s7 le_s7
def opsL:List (ByteArray × Int × Int):=[(⟨#[111,114]⟩,1,22),(⟨#[97,110,100]⟩,2,21),(⟨#[61]⟩,4,15),(⟨#[60,62]⟩,4,16),(⟨#[60]⟩,4,17),(⟨#[60,61]⟩,4,18),(⟨#[62]⟩,4,19),(⟨#[62,61]⟩,4,20),(⟨#[43]⟩,5,9),(⟨#[45]⟩,5,10),(⟨#[42]⟩,6,11),(⟨#[47]⟩,6,12),(⟨#[37]⟩,6,13)]
def opFrom (k:Int)(x:ByteArray):List (ByteArray × Int × Int)→Int
 | []=>0
 | (t,r,o) :: l=>if t=x∧r=k then o else opFrom k x l
def opP (L:List Tk)(s:PS)(k:Int):Int:=if s.c=0∧((tok L s.p).kind=4∨(tok L s.p).kind=3)then opFrom k (tok L s.p).text opsL else 0
theorem opFrom_drop (k:Int)(x:ByteArray){i:Nat}(h:i<opsL.length):opFrom k x (opsL.drop i)=if opsL[i].1=x∧opsL[i].2.1=k then opsL[i].2.2 else opFrom k x (opsL.drop (i+1)):=by
 rw[List.drop_eq_getElem_cons h];rfl
theorem b_signs:exBuild Tryz.prog 175 [(0,Value.string { data := #[111,114] }),(1,Value.string { data := #[97,110,100] }),(2,Value.string { data := #[61] }),(3,Value.string { data := #[60,62] }),(4,Value.string { data := #[60] }),(5,Value.string { data := #[60,61] }),(6,Value.string { data := #[62] }),(7,Value.string { data := #[62,61] }),(8,Value.string { data := #[43] }),(9,Value.string { data := #[45] }),(10,Value.string { data := #[42] }),(11,Value.string { data := #[47] }),(12,Value.string { data := #[37] })]=some (.agg ⟨opsL.map fun x => .string x.1⟩):=by kernel_rfl
theorem b_rows:exBuild Tryz.prog 176 [(0,Value.int .i64 1),(1,Value.int .i64 2),(2,Value.int .i64 4),(3,Value.int .i64 4),(4,Value.int .i64 4),(5,Value.int .i64 4),(6,Value.int .i64 4),(7,Value.int .i64 4),(8,Value.int .i64 5),(9,Value.int .i64 5),(10,Value.int .i64 6),(11,Value.int .i64 6),(12,Value.int .i64 6)]=some (.agg ⟨opsL.map fun x => .int .i64 x.2.1⟩):=by kernel_rfl
theorem b_ops:exBuild Tryz.prog 176 [(0,Value.int .i64 22),(1,Value.int .i64 21),(2,Value.int .i64 15),(3,Value.int .i64 16),(4,Value.int .i64 17),(5,Value.int .i64 18),(6,Value.int .i64 19),(7,Value.int .i64 20),(8,Value.int .i64 9),(9,Value.int .i64 10),(10,Value.int .i64 11),(11,Value.int .i64 12),(12,Value.int .i64 13)]=some (.agg ⟨opsL.map fun x => .int .i64 x.2.2⟩):=by kernel_rfl
theorem q_op0:quiet Tryz.prog (drawN Tryz.f93 0)=true:=by decide +kernel
section
variable {E:Hooks} (hE:Plain E) {H:Heap} {r lid:Nat} {L:List Tk} {s:PS} (h:RD H r lid L s)
include hE h
theorem op_run (k:Int):∃ H',(run Tryz.prog E).call 93 [.pointer (some ⟨r,0,none⟩),.int .i64 k] H=some (.val (.int .i64 (opP L s k)),H')∧Same (fun _=>False) H H':=by
 obtain⟨H1,e1,k1⟩:=now_run hE h
 have h2:=(h.same k1).same (Same.push _ _ (.row true 0 1 (tok L s.p).cells))
 have e2:=bad_run hE h2
 have g3:(H1.push (.row true 0 1 (tok L s.p).cells)).get H1.n = .row true 0 1 (tok L s.p).cells:=Heap.get_push_self _ _
 have kk:Same (fun _=>False) H (H1.push (.row true 0 1 (tok L s.p).cells)):=k1.then_push _
 have hn1:=k1.n
 have hn2:(H1.push (.row true 0 1 (tok L s.p).cells)).n=H1.n+1:=rfl
 suffices key:Gives ((run Tryz.prog E).call 93 [.pointer (some ⟨r,0,none⟩),.int .i64 k] H) fun o H'=>o = .val (.int .i64 (opP L s k))∧Same (fun _=>False) H H' by
  obtain⟨o,H',e,rfl,k⟩:=key
  exact⟨H',e,k⟩
 rw[c_op hE,callB,bodyOf]
 by_cases hc:s.c=0∧((tok L s.p).kind=4∨(tok L s.p).kind=3)
 · have hop:opP L s k=opFrom k (tok L s.p).text opsL:=by unfold opP;rw[if_pos hc]
   rw[hop]
   generalize htk:tok L s.p=tk at *
   simp only[Tk.v,Tk.cells]at *
   simp[Tryz.f93,e1]
   generalize hH2:H1.push (.row true 0 1 [.int .i64 tk.kind,.int .i64 tk.at_,.int .i64 tk.num,.string tk.text])=H2 at *
   have hlen:opsL.length=13:=rfl
   have hlt12:H1.n<H2.n:=by omega
   have hk1:(decide (tk.kind=4)=true∧decide (tk.kind=3)=false)∨(decide (tk.kind=4)=false∧decide (tk.kind=3)=true):=by
    rcases hc.2 with h | h<;>simp[h]
   rcases hk1 with⟨h4,h3⟩ | ⟨h4,h3⟩
   all_goals
    simp[-build_eq,b_signs,b_rows,b_ops,e2,g3,hc.1,h4,h3,hlen]
    refine loop_wp (fun m t H'=>∃ i:Nat,i+m=13∧rd t 9 = .int .i64 i∧H'=(((H2.push (.row true 0 1 (opsL.map fun x => .string x.1))).push (.row true 0 1 (opsL.map fun x => .int .i64 x.2.1))).push (.row true 0 1 (opsL.map fun x => .int .i64 x.2.2)))∧opFrom k tk.text opsL=opFrom k tk.text (opsL.drop i)) 13 ?_ ?_
    · exact⟨0,rfl,by simp,rfl,rfl⟩
    rintro m t H' hk ⟨i,hi,g9,rfl,ho⟩
    have ht:t.length=47:=hk.1.trans (by simp[len_Bs])
    have hh:=hk.all [0,1,5,6,7,8] (by decide +kernel)
    simp at hh
    obtain⟨a0,a1,a5,a6,a7,a8⟩:=hh
    have fin:Same (fun _=>False) H (((H2.push (.row true 0 1 (opsL.map fun x => .string x.1))).push (.row true 0 1 (opsL.map fun x => .int .i64 x.2.1))).push (.row true 0 1 (opsL.map fun x => .int .i64 x.2.2))):=((kk.then_push _).then_push _).then_push _
    by_cases hm:m=0
    · subst hm
      obtain rfl:i=13:=by omega
      have h0:opFrom k tk.text (opsL.drop 13)=0:=rfl
      rw[ho,h0]
      simp[ht,g9]
      exact fin
    · have hi13:i<opsL.length:=by omega
      have hi:i<13:=by omega
      have hop2:=opFrom_drop k tk.text hi13
      rw[ho]
      have hw:=wrap64 ((i:Int)+1) (by omega) (by omega)
      have hq:=List.getElem?_eq_getElem hi13
      generalize opsL[i]=q at hop2 hq
      obtain⟨q1,q2,q3⟩:=q
      simp only[]at hop2
      rw[hop2]
      simp[ht,g9,show (i:Int)<13 by omega]
      refine region_quiet (by exact q_op0) ?_
      by_cases c1:q1=tk.text
      · by_cases c2:q2=k
        · simp[ht,g9,a0,a1,a5,a6,a7,a8,hi,hq,c1,c2,hlt12,g3]
          exact fin
        · simp[ht,g9,a0,a1,a5,a6,a7,a8,hi,hq,c1,c2,hlt12,g3,hw]
          exact⟨m - 1,by omega,i+1,by omega,by simp,rfl⟩
      · simp[ht,g9,a0,a1,a5,a6,a7,a8,hi,hq,c1,hlt12,g3,hw]
        exact⟨m - 1,by omega,i+1,by omega,by simp,rfl⟩
 · have hop:opP L s k=0:=by unfold opP;rw[if_neg hc]
   rw[hop]
   generalize htk:tok L s.p=tk at *
   simp only[Tk.v,Tk.cells]at *
   simp[Tryz.f93,e1]
   generalize hH2:H1.push (.row true 0 1 [.int .i64 tk.kind,.int .i64 tk.at_,.int .i64 tk.num,.string tk.text])=H2 at *
   by_cases h0:s.c=0
   · have h4:¬tk.kind=4:=fun e=>hc ⟨h0,.inl e⟩
     have h3:¬tk.kind=3:=fun e=>hc ⟨h0,.inr e⟩
     simp[-build_eq,e2,g3,h0,h4,h3]
     exact kk
   · simp[-build_eq,e2,g3,h0]
     exact kk
end
end Go.Vm.Parse
namespace Go.Vm.Parse
open Go Go.Proofs
inductive Ex where
 | mk (kind at_ num op:Int) (name:ByteArray) (sub:List Ex)
def Ex.zero:Ex := .mk 0 0 0 0 ByteArray.empty []
mutual
def RE (H:Heap)(S:Nat→Prop):Ex→List Value→Prop
 | .mk kind at_ num op name sub, cs => ∃ v, cs = [.int .i64 kind, .int .i64 at_, .int .i64 num, .int .i64 op, .string name, v] ∧
  ((v = .slice none 0 0∧sub=[])∨∃ id tl cs',v = .slice (some ⟨id,0,none⟩) sub.length sub.length∧S id∧H.get id = .row true tl 6 cs'∧REs H S sub cs')
def REs (H:Heap)(S:Nat→Prop):List Ex→List Value→Prop
 | [],cs=>cs=[]
 | e :: es,cs=>∃ c1 c2,cs=c1++c2∧RE H S e c1∧REs H S es c2
end
mutual
theorem RE.move {X S S':Nat→Prop}{H H':Heap}(k:Same X H H')(hs:∀ i,S i→i<H.n→S' i∧¬X i):∀ (e:Ex)(cs:List Value),RE H S e cs→RE H' S' e cs
 | .mk kind at_ num op name sub, cs, h => by
  simp only[RE]at h ⊢
  obtain⟨v,h1,h2⟩:=h
  refine⟨v,h1,h2.imp id ?_⟩
  rintro⟨id,tl,cs',h3,h4,h5,h6⟩
  have:=hs id h4 (Heap.lt_of_get h5 (by simp))
  exact⟨id,tl,cs',h3,this.1,k.at h5 (by simp) this.2,REs.move k hs sub cs' h6⟩
theorem REs.move {X S S':Nat→Prop}{H H':Heap}(k:Same X H H')(hs:∀ i,S i→i<H.n→S' i∧¬X i):∀ (es:List Ex)(cs:List Value),REs H S es cs→REs H' S' es cs
 | [],cs,h=>by simp only[REs]at h ⊢;exact h
 | e :: es, cs, h => by
  simp only[REs]at h ⊢
  obtain⟨c1,c2,h1,h2,h3⟩:=h
  exact⟨c1,c2,h1,RE.move k hs e c1 h2,REs.move k hs es c2 h3⟩
end
theorem RE.len {H:Heap}{S:Nat→Prop}{e:Ex}{cs:List Value}(h:RE H S e cs):cs.length=6:=by
 cases e
 simp only[RE]at h
 obtain⟨v,rfl,_⟩:=h
 rfl
theorem RE.six {H:Heap}{S:Nat→Prop}{e:Ex}{cs:List Value}(h:RE H S e cs):∃ a b c d x v,cs=[.int .i64 a,.int .i64 b,.int .i64 c,.int .i64 d,.string x,v]∧isTuple v=false∧v.cells.toList=[v]:=by
 cases e
 simp only[RE]at h
 obtain⟨v,rfl,h⟩:=h
 refine⟨_,_,_,_,_,v,rfl,?_⟩
 rcases h with⟨rfl,_⟩ | ⟨id,tl,cs',rfl,_⟩<;>exact⟨rfl,rfl⟩
theorem RE.nil (H:Heap)(S:Nat→Prop)(a b c d:Int)(x:ByteArray):RE H S (.mk a b c d x []) [.int .i64 a,.int .i64 b,.int .i64 c,.int .i64 d,.string x,.slice none 0 0]:=by
 simp only[RE]
 exact⟨_,rfl,.inl ⟨rfl,trivial⟩⟩
theorem RE.parts {H:Heap}{S:Nat→Prop}(a b c d:Int)(x:ByteArray){sub:List Ex}{id tl:Nat}{cs:List Value}(hS:S id)(hg:H.get id = .row true tl 6 cs)(h:REs H S sub cs) :
  RE H S (.mk a b c d x sub) [.int .i64 a,.int .i64 b,.int .i64 c,.int .i64 d,.string x,.slice (some ⟨id,0,none⟩) sub.length sub.length]:=by
 simp only[RE]
 exact⟨_,rfl,.inr ⟨id,tl,cs,rfl,hS,hg,h⟩⟩
theorem REs.one {H:Heap}{S:Nat→Prop}{e:Ex}{cs:List Value}(h:RE H S e cs):REs H S [e] cs:=by
 simp only[REs]
 exact⟨cs,[],(List.append_nil _).symm,h,rfl⟩
theorem REs.two {H:Heap}{S:Nat→Prop}{e f:Ex}{cs ds:List Value}(h:RE H S e cs)(k:RE H S f ds):REs H S [e,f] (cs++ds):=by
 simp only[REs]
 exact⟨cs,ds,rfl,h,ds,[],(List.append_nil _).symm,k,rfl⟩
inductive XC where
 | row (k lv:Int)
 | loop (k lv:Int) (x:Ex)
 | fact (lv:Int)
 | index (lv:Int)
def b1 (c:UInt8):ByteArray:=⟨#[c]⟩
def tNot:ByteArray:=⟨#[110,111,116]⟩
def tTrue:ByteArray:=⟨#[116,114,117,101]⟩
def tFalse:ByteArray:=⟨#[102,97,108,115,101]⟩
def PS.on (s:PS):PS:={ s with p:=s.p+1 }
def xP (L:List Tk):Nat→XC→PS→Option (Ex × PS)
 | 0,_,_=>none
 | n + 1, .row k lv, s =>
  if s.c≠0 then some (.zero,s)
  else if k=7 then xP L n (.fact lv) s
  else if k=3 then
   if isP L s tNot=false then xP L n (.row 4 lv) s
   else if (opensS L s (lv+1)).c≠0 then some (.zero,opensS L s (lv+1))
   else (xP L n (.row 3 (lv+1)) (opensS L s (lv+1)).on).map fun q=>(.mk 5 (tok L s.p).at_ 0 23 ByteArray.empty [q.1],q.2)
  else (xP L n (.row (k+1) lv) s).bind fun q=>xP L n (.loop k lv q.1) q.2
 | n + 1, .loop k lv x, s =>
  if opP L s k=0 then some (x,s)
  else (xP L n (.row (k+1) lv) s.on).bind fun q =>
   if k=4 then some (.mk 6 (tok L s.p).at_ 0 (opP L s k) ByteArray.empty [x,q.1],q.2)
   else xP L n (.loop k lv (.mk 6 (tok L s.p).at_ 0 (opP L s k) ByteArray.empty [x,q.1])) q.2
 | n + 1, .fact lv, s =>
  if isP L s (b1 45)=true then
   if (opensS L s (lv+1)).c≠0 then some (.zero,opensS L s (lv+1))
   else (xP L n (.fact (lv+1)) (opensS L s (lv+1)).on).map fun q=>(.mk 5 (tok L s.p).at_ 0 14 ByteArray.empty [q.1],q.2)
  else if (tok L s.p).kind=2 then some (.mk 1 (tok L s.p).at_ (tok L s.p).num 0 ByteArray.empty [],s.on)
  else if isP L s tTrue=true then some (.mk 2 (tok L s.p).at_ 1 0 ByteArray.empty [],s.on)
  else if isP L s tFalse=true then some (.mk 2 (tok L s.p).at_ 0 0 ByteArray.empty [],s.on)
  else if isP L s (b1 40)=true then
   if (opensS L s (lv+1)).c≠0 then some (.zero,opensS L s (lv+1))
   else (xP L n (.row 1 (lv+1)) (opensS L s (lv+1)).on).map fun q=>(q.1,mustS L q.2 (b1 41))
  else if (tok L s.p).kind=1 then
   if isP L s.on (b1 91)=false then some (.mk 3 (tok L s.p).at_ 0 0 (tok L s.p).text [],s.on)
   else (xP L n (.index lv) s.on).map fun q=>(.mk 4 (tok L s.p).at_ 0 0 (tok L s.p).text [q.1],q.2)
  else some (.zero,faultS L s 14)
 | n + 1, .index lv, s =>
  if isP L s (b1 91)=false then some (.zero,faultS L s 14)
  else if (opensS L s (lv+1)).c≠0 then some (.zero,faultS L (opensS L s (lv+1)) 14)
  else (xP L n (.row 1 (lv+1)) (opensS L s (lv+1)).on).map fun q=>(q.1,mustS L q.2 (b1 93))
def RetE (H:Heap)(r lid:Nat)(L:List Tk)(e:Ex)(s:PS)(o:Out)(H':Heap):Prop :=
 ∃ cs,o = .val (.agg ⟨cs⟩)∧Same (·=r) H H'∧RD H' r lid L s∧RE H' (fun i=>H.n≤i) e cs
theorem RD.lid_lt {H:Heap}{r lid:Nat}{L:List Tk}{s:PS}(h:RD H r lid L s):lid<H.n:=by
 obtain⟨tl,h2⟩:=h.toks
 exact Heap.lt_of_get h2 (by simp)
theorem RD.keep {X:Nat→Prop}{H H':Heap}{r lid:Nat}{L:List Tk}{s:PS}(h:RD H r lid L s)(k:Same X H H')(hr:¬X r)(hl:¬X lid):RD H' r lid L s:=by
 obtain⟨tl,h2⟩:=h.toks
 exact⟨k.at h.obj (by simp) hr,⟨tl,k.at h2 (by simp) hl⟩,h.small,h.place⟩
theorem RD.step {A H:Heap}{r lid:Nat}{L:List Tk}{s:PS}(h:RD H r lid L s)(k:Same (·=r) A H)(s':PS)(hp:s'.p≤L.length) :
  Same (·=r) A (H.set r (.row true 0 1 [.slice (some ⟨lid,0,none⟩) L.length L.length,.int .i64 s'.p,.int .i64 s'.c,.int .i64 s'.a])) ∧
   RD (H.set r (.row true 0 1 [.slice (some ⟨lid,0,none⟩) L.length L.length,.int .i64 s'.p,.int .i64 s'.c,.int .i64 s'.a])) r lid L s':=⟨k.then_set h.lt (.inl rfl) _,h.turn s' hp⟩
theorem RD.on {A H:Heap}{r lid:Nat}{L:List Tk}{s:PS}(h:RD H r lid L s)(k:Same (·=r) A H)(hc:s.c=0)(hp:s.p<L.length) :
  Same (·=r) A (H.set r (.row true 0 1 [.slice (some ⟨lid,0,none⟩) L.length L.length,.int .i64 (s.p+1),.int .i64 0,.int .i64 s.a])) ∧
   RD (H.set r (.row true 0 1 [.slice (some ⟨lid,0,none⟩) L.length L.length,.int .i64 (s.p+1),.int .i64 0,.int .i64 s.a])) r lid L s.on:=by
 have:=h.step k s.on (by show s.p+1≤_;omega)
 simp only[PS.on,hc,Int.natCast_add,Int.natCast_one]at this
 simp only[PS.on,hc]
 exact this
theorem RD.on2 {A H:Heap}{r lid:Nat}{L:List Tk}{s:PS}(h:RD H r lid L s)(k:Same (·=r) A H)(hp:s.p<L.length) :
  Same (·=r) A (H.set r (.row true 0 1 [.slice (some ⟨lid,0,none⟩) L.length L.length,.int .i64 (s.p+1),.int .i64 s.c,.int .i64 s.a])) ∧
   RD (H.set r (.row true 0 1 [.slice (some ⟨lid,0,none⟩) L.length L.length,.int .i64 (s.p+1),.int .i64 s.c,.int .i64 s.a])) r lid L s.on:=by
 have:=h.step k s.on (by show s.p+1≤_;omega)
 simp only[PS.on,Int.natCast_add,Int.natCast_one]at this
 simp only[PS.on]
 exact this
theorem isP_lt {L:List Tk}{s:PS}{x:ByteArray}(h:isP L s x=true):s.p<L.length:=tok_ge_kind (by
 unfold isP at h
 simp only[decide_eq_true_eq]at h
 rcases h.2.1 with h | h<;>omega)
theorem ret_store {H H1:Heap}{r lid:Nat}{L:List Tk}{s s':PS}{z:AObj}(h:RD H r lid L s)(k:Same (·=r) (H.push z) H1)(h1:RD H1 r lid L s'){e:Ex}{cs:List Value}(he:RE H1 (fun i=>H.n+1≤i) e cs)(o:AObj) :
  Same (·=r) H (H1.set H.n o)∧RD (H1.set H.n o) r lid L s'∧RE (H1.set H.n o) (fun i=>H.n≤i) e cs:=by
 have hn:=k.n
 simp at hn
 have hr:=h.lt
 have hl:=h.lid_lt
 have ks:Same (fun i=>i=H.n) H1 (H1.set H.n o):=Same.set (X:=fun i=>i=H.n) H1 (by omega) rfl o
 refine⟨(Same.push _ _ _).trans k |>.then ks (fun i hi => .inr (by omega)),h1.keep ks (by omega) (by omega),RE.move ks (fun i hi hlt=>⟨by omega,by omega⟩) _ _ he⟩
theorem ret_one {H H1:Heap}{r lid:Nat}{L:List Tk}{s s':PS}{z:AObj}(h:RD H r lid L s)(k:Same (·=r) (H.push z) H1)(h1:RD H1 r lid L s'){e:Ex}{cs:List Value}(he:RE H1 (fun i=>H.n+1≤i) e cs)(o:AObj)(a b c d:Int)(x:ByteArray) :
  Same (·=r) H ((H1.push (.row true 0 6 cs)).set H.n o)∧RD ((H1.push (.row true 0 6 cs)).set H.n o) r lid L s'∧RE ((H1.push (.row true 0 6 cs)).set H.n o) (fun i=>H.n≤i) (.mk a b c d x [e]) [.int .i64 a,.int .i64 b,.int .i64 c,.int .i64 d,.string x,.slice (some ⟨H1.n,0,none⟩) 1 1]:=by
 have hn:=k.n
 simp at hn
 have k2:=k.then_push (.row true 0 6 cs)
 have h2:=h1.same (Same.push _ _ (.row true 0 6 cs))
 have e2:RE (H1.push (.row true 0 6 cs)) (fun i=>H.n+1≤i) e cs:=RE.move (Same.push (fun _=>False) _ _) (fun i hi hlt=>⟨hi,fun h=>h⟩) _ _ he
 have e3:RE (H1.push (.row true 0 6 cs)) (fun i=>H.n+1≤i) (.mk a b c d x [e]) _:=RE.parts a b c d x (id:=H1.n) hn (Heap.get_push_self _ _) (REs.one e2)
 exact ret_store h k2 h2 e3 o
end Go.Vm.Parse
namespace Go.Vm.Parse
open Go Go.Proofs
attribute [local simp] repCells_succ writeAt rd_Fr toList_beq gpe gpn spe gse gsn ne_r0 ne_l0 le_s0 ne_r1 ne_l1 lt_s1 le_s1 ne_r2 ne_l2 lt_s2 le_s2 ne_r3 ne_l3 lt_s3 le_s3 ne_r4 ne_l4 lt_s4 le_s4 ne_r5 ne_l5 lt_s5 le_s5 ne_r6 ne_l6 lt_s6 le_s6 ne_r7 ne_l7 lt_s7 le_s7
def z6:List Value:=[.int .i64 0,.int .i64 0,.int .i64 0,.int .i64 0,.string ByteArray.empty,.slice none 0 0]
theorem pl_row0:planOf Tryz.prog (drawN Tryz.f77 0)=some [(some (0,2)),(some (0,2)),(some (0,1)),none,none,none,none,none,none,none,none]:=by decide +kernel
theorem tNot_eq:tNot=⟨#[110,111,116]⟩:=rfl
section
variable {E:Hooks} (hE:Plain E) (r lid:Nat) (L:List Tk)
def RowOK (n:Nat):Prop:=∀ k lv s e s',xP L n (.row k lv) s=some (e,s')→1≤k→k≤7→0≤lv→lv≤24→∀ H,RD H r lid L s→Gives ((run Tryz.prog E).call 77 [.pointer (some ⟨r,0,none⟩),.int .i64 k,.int .i64 lv] H) (RetE H r lid L e s')
def FactOK (n:Nat):Prop:=∀ lv s e s',xP L n (.fact lv) s=some (e,s')→0≤lv→lv≤24→∀ H,RD H r lid L s→Gives ((run Tryz.prog E).call 91 [.pointer (some ⟨r,0,none⟩),.int .i64 lv] H) (RetE H r lid L e s')
def IndexOK (n:Nat):Prop:=∀ lv s e s',xP L n (.index lv) s=some (e,s')→0≤lv→lv≤24→∀ H,RD H r lid L s→Gives ((run Tryz.prog E).call 80 [.pointer (some ⟨r,0,none⟩),.int .i64 lv] H) (RetE H r lid L e s')
end
theorem opens_ok {L:List Tk}{s:PS}{lv:Int}(h:¬(opensS L s lv).c≠0)(h0:s.c=0):opensS L s lv=s∧lv≤24:=by
 unfold opensS at *
 split at h
 · rename_i hl
   unfold faultS at h
   rw[if_pos h0]at h
   simp at h
 · rename_i hl
   rw[if_neg hl]
   exact⟨rfl,by omega⟩
def RowI (r lid:Nat)(L:List Tk)(k lv:Int)(H:Heap)(X:Nat)(e:Ex)(s':PS)(n m:Nat)(t:List Value)(H':Heap):Prop :=
 m≤n∧∃ x s1 csx,xP L m (.loop k lv x) s1=some (e,s')∧rd t 9 = .int .i64 (opP L s1 k)∧RD H' r lid L s1∧Same (·=r) (H.push (.row true 0 1 z6)) H'∧X<H'.n∧H'.get X = .row true 0 1 csx∧RE H' (fun i=>H.n+1≤i∧i≠X) x csx
section
variable {E:Hooks} (hE:Plain E) {r lid:Nat} {L:List Tk} {n:Nat}
include hE
theorem row_walk (ih:∀ m,m≤n→RowOK (E:=E) r lid L m∧FactOK (E:=E) r lid L m):RowOK (E:=E) r lid L (n+1):=by
 intro k lv s e s' hx hk1 hk7 hl0 hl24 H h
 have hr:=h.lt
 have hl:=h.lid_lt
 have hsm:=h.small
 have h0:RD (H.push (.row true 0 1 z6)) r lid L s:=h.same (Same.push _ _ _)
 have eb:=bad_run hE h0
 simp only[z6]at h0 eb
 rw[c_row hE,callB,bodyOf]
 rw[xP]at hx
 by_cases hc:s.c=0
 · rw[if_neg (by omega)]at hx
   by_cases h7:k=7
   · rw[if_pos h7]at hx
     obtain⟨o,H1,e1,cs,rfl,k1,h1,r1⟩:=(ih n (Nat.le_refl n)).2 _ _ _ _ hx hl0 hl24 _ h0
     obtain⟨a,b,c,d,x,v,rfl,hv1,hv2⟩:=r1.six
     have hn:H.n<H1.n:=by have:=k1.n;simp at this;omega
     have g1:H1.get H.n = .row true 0 1 z6:=k1.at (Heap.get_push_self _ _) (by simp) (by omega)
     simp only[z6]at g1
     simp[Tryz.f77,eb,hc,h7,e1,g1,hn]
     exact⟨_,rfl,ret_store h k1 h1 r1 _⟩
   · rw[if_neg h7]at hx
     by_cases h3:k=3
     · rw[if_pos h3]at hx
       obtain⟨HA,eA,kA⟩:=is_run hE h0 tNot
       have hA:=h0.same kA
       have nA:=kA.n
       simp at nA
       simp only[tNot_eq]at eA
       by_cases hno:isP L s tNot=false
       · rw[if_pos hno]at hx
         obtain⟨o,H1,e1,cs,rfl,k1,h1,r1⟩:=(ih n (Nat.le_refl n)).1 _ _ _ _ _ hx (by omega) (by omega) hl0 hl24 _ hA
         obtain⟨a,b,c,d,x,v,rfl,hv1,hv2⟩:=r1.six
         have hn:H.n<H1.n:=by have:=k1.n;omega
         have kk:Same (·=r) (H.push (.row true 0 1 z6)) H1:=(Same.none kA).trans k1
         have g1:H1.get H.n = .row true 0 1 z6:=kk.at (Heap.get_push_self _ _) (by simp) (by omega)
         simp only[z6]at g1
         rw[tNot_eq]at hno
         simp[Tryz.f77,eb,hc,h3,eA,hno,e1,g1,hn]
         exact⟨_,rfl,ret_store h kk h1 (RE.move (Same.refl (fun _=>False) _) (fun i hi _=>⟨by omega,fun h=>h⟩) _ _ r1) _⟩
       · rw[if_neg hno]at hx
         have hyes:isP L s tNot=true:=by simpa using hno
         obtain⟨HB,eB,kB⟩:=now_run hE hA
         have hB:=hA.same kB
         have nB:=kB.n
         obtain⟨HC,eC,kC,hC⟩:=opens_run hE hB (lv+1)
         have nC:=kC.n
         have kAC:Same (·=r) (H.push (.row true 0 1 z6)) HC:=((Same.none kA).trans (Same.none kB)).trans kC
         have gC:HC.get H.n = .row true 0 1 z6:=kAC.at (Heap.get_push_self _ _) (by simp) (by omega)
         simp only[z6]at gC
         have hnC:H.n<HC.n:=by omega
         have hw:=wrap64 (lv+1) (by omega) (by omega)
         rw[tNot_eq]at hyes
         generalize htk:tok L s.p=tk at *
         simp only[Tk.v,Tk.cells]at eB
         by_cases ho:(opensS L s (lv+1)).c≠0
         · rw[if_pos ho]at hx
           cases hx
           simp[Tryz.f77,eb,hc,h3,eA,hyes,eB,hw,eC,ho,gC,hnC]
           exact⟨_,rfl,ret_store h kAC hC (RE.nil _ _ _ _ _ _ _) _⟩
         · rw[if_neg ho]at hx
           obtain⟨hos,hlv⟩:=opens_ok ho hc
           rw[hos]at hx hC
           have ho2:(opensS L s (lv+1)).c=0:=by rw[hos];exact hc
           simp only[Option.map_eq_some_iff]at hx
           obtain⟨⟨e1x,s1x⟩,hx1,hx2⟩:=hx
           cases hx2
           have hlt:=isP_lt hyes
           obtain⟨kD,hD⟩:=hC.on kAC hc hlt
           obtain⟨o,H1,e1,cs,rfl,k1,h1,r1⟩:=(ih n (Nat.le_refl n)).1 _ _ _ _ _ hx1 (by omega) (by omega) (by omega) hlv _ hD
           obtain⟨a,b,c,d,x,v,rfl,hv1,hv2⟩:=r1.six
           have hn:H.n<H1.n:=by have:=k1.n;simp at this;omega
           have kk:=kD.trans k1
           have g1:H1.get H.n = .row true 0 1 z6:=kk.at (Heap.get_push_self _ _) (by simp) (by omega)
           simp only[z6]at g1
           have hobj:=hC.obj
           have hw2:=wrap64 ((s.p:Int)+1) (by omega) (by omega)
           simp[Tryz.f77,eb,hc,h3,eA,hyes,eB,hw,eC,ho2,hobj,hw2,e1,g1,hn]
           exact⟨_,rfl,ret_one h kk h1 (RE.move (Same.refl (fun _=>False) _) (fun i hi _=>⟨by simp at hi;omega,fun h=>h⟩) _ _ r1) _ _ _ _ _ _⟩
     · rw[if_neg h3]at hx
       simp only[Option.bind_eq_some_iff]at hx
       obtain⟨⟨x0,s0⟩,hx1,hx2⟩:=hx
       have hwk:=wrap64 (k+1) (by omega) (by omega)
       obtain⟨o,H1,e1,cs0,rfl,k1,h1,r1⟩:=(ih n (Nat.le_refl n)).1 _ _ _ _ _ hx1 (by omega) (by omega) hl0 hl24 _ h0
       have hn1:=k1.n
       simp at hn1
       have g1:H1.get H.n = .row true 0 1 z6:=k1.at (Heap.get_push_self _ _) (by simp) (by omega)
       obtain⟨a0,b0,c0,d0,y0,v0,rfl,hv1,hv2⟩:=r1.six
       have kA:=k1.then_push (.row true 0 1 [.int .i64 a0,.int .i64 b0,.int .i64 c0,.int .i64 d0,.string y0,v0])
       have hA:=h1.same (Same.push _ _ (.row true 0 1 [.int .i64 a0,.int .i64 b0,.int .i64 c0,.int .i64 d0,.string y0,v0]))
       obtain⟨HB,eB,kB⟩:=op_run hE hA k
       have hB:=hA.same kB
       have nB:=kB.n
       simp at nB
       simp[Tryz.f77,eb,hc,h7,h3,hwk,e1,hv1,eB]
       refine loop_wp (RowI r lid L k lv H H1.n e s' n) n ?_ ?_
       · refine⟨Nat.le_refl n,x0,s0,_,hx2,by simp,hB,kA.trans (Same.none kB),by omega,kB.at (Heap.get_push_self _ _) (by simp) (fun h=>h),?_⟩
         have:=RE.move (Same.push (fun _=>False) H1 (.row true 0 1 [.int .i64 a0,.int .i64 b0,.int .i64 c0,.int .i64 d0,.string y0,v0])) (S':=fun i=>H.n+1≤i∧i≠H1.n) (fun i hi hlt=>⟨⟨by simp at hi;omega,by omega⟩,fun h=>h⟩) _ _ r1
         exact RE.move kB (fun i hi hlt=>⟨hi,fun h=>h⟩) _ _ this
       rintro m t H' hk ⟨hmn,x,s1,csx,hxl,g9,hR,hS,hX1,gX,rX⟩
       have ht:t.length=87:=hk.1.trans (by simp[len_Bs])
       have hh:=hk.all [0,1,2,6,8] (by decide +kernel)
       simp at hh
       obtain⟨t0,t1,t2,t6,t8⟩:=hh
       have gN:H'.get H.n = .row true 0 1 z6:=hS.at (Heap.get_push_self _ _) (by simp) (by omega)
       have hnN:H.n<H'.n:=by omega
       simp only[z6]at gN
       obtain⟨a,b,c,d,y,v,rfl,hv1,hv2⟩:=rX.six
       cases m with
       | zero=>cases hxl
       | succ m =>
       rw[xP]at hxl
       by_cases hop:opP L s1 k=0
       · rw[if_pos hop]at hxl
         cases hxl
         simp[ht,g9,hop,t0,t1,t2,t6,t8,gX,gN,hv1,hnN]
         refine⟨_,rfl,ret_store h hS hR (RE.move (Same.refl (fun _=>False) _) (fun i hi _=>⟨by omega,fun h=>h⟩) _ _ rX) _⟩
       · rw[if_neg hop]at hxl
         simp only[Option.bind_eq_some_iff]at hxl
         obtain⟨⟨x2,s2⟩,hxa,hxb⟩:=hxl
         have hc1:s1.c=0:=by
          unfold opP at hop
          split at hop
          · rename_i h;exact h.1
          · exact absurd rfl hop
         have hlt1:s1.p<L.length:=tok_ge_kind (by
          unfold opP at hop
          split at hop
          · rename_i h;rcases h.2 with h | h<;>omega
          · exact absurd rfl hop)
         obtain⟨HC,eC,kC⟩:=now_run hE hR
         have hC:=hR.same kC
         have nC:=kC.n
         obtain⟨kD,hD⟩:=hC.on (hS.trans (Same.none kC)) hc1 hlt1
         obtain⟨o,HE,e2,cs2,rfl,k2,h2,r2⟩:=(ih m (by omega)).1 _ _ _ _ _ hxa (by omega) (by omega) hl0 hl24 _ hD
         obtain⟨a2,b2,c2,d2,y2,v2,rfl,hw1,hw2⟩:=r2.six
         have nE:=k2.n
         simp at nE
         have gEX:HE.get H1.n = .row true 0 1 [.int .i64 a,.int .i64 b,.int .i64 c,.int .i64 d,.string y,v]:=k2.at (by
          rw[gsn _ (by omega),kC.get _ hX1 (fun h=>h)];exact gX) (by simp) (by omega)
         have gEN:HE.get H.n = .row true 0 1 z6:=(kD.trans k2).at (Heap.get_push_self _ _) (by simp) (by omega)
         have gDX:(HC.set r (.row true 0 1 [.slice (some ⟨lid,0,none⟩) L.length L.length,.int .i64 (s1.p+1),.int .i64 0,.int .i64 s1.a])).get H1.n = .row true 0 1 [.int .i64 a,.int .i64 b,.int .i64 c,.int .i64 d,.string y,v]:=by
          rw[gsn _ (by omega),kC.get _ hX1 (fun h=>h)];exact gX
         have hobj:=hC.obj
         have hw3:=wrap64 ((s1.p:Int)+1) (by omega) (by omega)
         have hXE:H1.n<HE.n:=by omega
         have hNE:H.n<HE.n:=by omega
         simp only[z6]at gEN
         generalize htk:tok L s1.p=tk at *
         simp only[Tk.v,Tk.cells]at eC
         simp[ht,g9,hop,t0,t1,t2,t6,t8,eC,hobj,hc1,hw3]
         refine region_plan (by exact pl_row0) ?_
         generalize hHD:HC.set r (.row true 0 1 [.slice (some ⟨lid,0,none⟩) L.length L.length,.int .i64 (s1.p+1),.int .i64 0,.int .i64 s1.a])=HD at *
         simp[ht,g9,hop,t0,t1,t2,t6,t8,hwk,gDX,e2,gEX,hv1,hw1,hXE]
         have rE:RE HE (fun i=>H.n+1≤i∧i≠H1.n) x _:=RE.move ((Same.none (X:=(·=r)) kC).trans (by
           have:=Same.set (X:=(·=r)) HC hC.lt rfl (.row true 0 1 [.slice (some ⟨lid,0,none⟩) L.length L.length,.int .i64 (s1.p+1),.int .i64 0,.int .i64 s1.a])
           rw[hHD]at this
           exact this.trans k2)) (fun i hi hlt=>⟨hi,by omega⟩) _ _ rX
         have nD:HC.n=HD.n:=by rw[← hHD];rfl
         have rE2:RE HE (fun i=>H.n+1≤i∧i≠H1.n) x2 _:=RE.move (Same.refl (fun _=>False) _) (fun i hi hlt=>⟨⟨by omega,by omega⟩,fun h=>h⟩) _ _ r2
         have kG:=(kD.trans k2).then_push (.row true 0 6 ([.int .i64 a,.int .i64 b,.int .i64 c,.int .i64 d,.string y,v]++[.int .i64 a2,.int .i64 b2,.int .i64 c2,.int .i64 d2,.string y2,v2]))
         have hG:=h2.same (Same.push _ _ (.row true 0 6 ([.int .i64 a,.int .i64 b,.int .i64 c,.int .i64 d,.string y,v]++[.int .i64 a2,.int .i64 b2,.int .i64 c2,.int .i64 d2,.string y2,v2])))
         have mv:=fun e cs (q:RE HE (fun i=>H.n+1≤i∧i≠H1.n) e cs)=>RE.move (Same.push (fun _=>False) HE (.row true 0 6 ([.int .i64 a,.int .i64 b,.int .i64 c,.int .i64 d,.string y,v]++[.int .i64 a2,.int .i64 b2,.int .i64 c2,.int .i64 d2,.string y2,v2]))) (S':=fun i=>H.n+1≤i∧i≠H1.n) (fun i hi hlt=>⟨hi,fun h=>h⟩) e cs q
         have rG:=RE.parts 6 tk.at_ 0 (opP L s1 k) ByteArray.empty (S:=fun i=>H.n+1≤i∧i≠H1.n) (id:=HE.n) ⟨by omega,by omega⟩ (Heap.get_push_self _ _) (REs.two (mv _ _ rE) (mv _ _ rE2))
         simp only[List.cons_append,List.nil_append]at kG hG rG
         generalize hHG:HE.push (.row true 0 6 [.int .i64 a,.int .i64 b,.int .i64 c,.int .i64 d,.string y,v,.int .i64 a2,.int .i64 b2,.int .i64 c2,.int .i64 d2,.string y2,v2])=HG at *
         have nG:HG.n=HE.n+1:=by rw[← hHG];rfl
         have gGN:HG.get H.n = .row true 0 1 z6:=kG.at (Heap.get_push_self _ _) (by simp) (by omega)
         simp only[z6]at gGN
         have kF:=kG.then_set (i:=H1.n) (by omega) (.inr (by simp;omega)) (.row true 0 1 [.int .i64 6,.int .i64 tk.at_,.int .i64 0,.int .i64 (opP L s1 k),.string ByteArray.empty,.slice (some ⟨HE.n,0,none⟩) 2 2])
         have sF:Same (fun i=>i=H1.n) HG (HG.set H1.n (.row true 0 1 [.int .i64 6,.int .i64 tk.at_,.int .i64 0,.int .i64 (opP L s1 k),.string ByteArray.empty,.slice (some ⟨HE.n,0,none⟩) 2 2])):=Same.set (X:=fun i=>i=H1.n) HG (by omega) rfl _
         have hF:=hG.keep sF (by omega) (by omega)
         have rF:RE (HG.set H1.n (.row true 0 1 [.int .i64 6,.int .i64 tk.at_,.int .i64 0,.int .i64 (opP L s1 k),.string ByteArray.empty,.slice (some ⟨HE.n,0,none⟩) 2 2])) (fun i=>H.n+1≤i∧i≠H1.n) _ _:=RE.move sF (fun i hi hlt=>⟨hi,hi.2⟩) _ _ rG
         have gFX:(HG.set H1.n (.row true 0 1 [.int .i64 6,.int .i64 tk.at_,.int .i64 0,.int .i64 (opP L s1 k),.string ByteArray.empty,.slice (some ⟨HE.n,0,none⟩) 2 2])).get H1.n=_:=Heap.get_set_self _ _ (by omega)
         have gFN:(HG.set H1.n (.row true 0 1 [.int .i64 6,.int .i64 tk.at_,.int .i64 0,.int .i64 (opP L s1 k),.string ByteArray.empty,.slice (some ⟨HE.n,0,none⟩) 2 2])).get H.n=_:=sF.at gGN (by simp) (by omega)
         have nF:(HG.set H1.n (.row true 0 1 [.int .i64 6,.int .i64 tk.at_,.int .i64 0,.int .i64 (opP L s1 k),.string ByteArray.empty,.slice (some ⟨HE.n,0,none⟩) 2 2])).n=HG.n:=rfl
         generalize hHF:HG.set H1.n (.row true 0 1 [.int .i64 6,.int .i64 tk.at_,.int .i64 0,.int .i64 (opP L s1 k),.string ByteArray.empty,.slice (some ⟨HE.n,0,none⟩) 2 2])=HF at *
         have hNF:H.n<HF.n:=by omega
         by_cases h4:k=4
         · rw[if_pos h4]at hxb
           cases hxb
           subst h4
           simp[ht,t0,t1,t2,t6,t8,gFX,gFN,hNF]
           exact⟨_,rfl,ret_store h kF hF (RE.move (Same.refl (fun _=>False) _) (fun i hi _=>⟨by omega,fun h=>h⟩) _ _ rF) _⟩
         · rw[if_neg h4]at hxb
           obtain⟨HI,eI,kI⟩:=op_run hE hF k
           have nI:=kI.n
           simp[ht,h4,t0,t1,t2,t6,t8,eI]
           refine⟨m,by omega,by omega,_,s2,_,hxb,?_,hF.same kI,kF.trans (Same.none kI),by omega,kI.at gFX (by simp) (fun h=>h),RE.move kI (fun i hi hlt=>⟨hi,fun h=>h⟩) _ _ rF⟩
           simp[ht]
 · rw[if_pos hc]at hx
   cases hx
   simp[Tryz.f77,eb,hc]
   exact⟨_,rfl,Same.push _ _ _,h0,RE.nil _ _ _ _ _ _ _⟩
end
theorem pl_fact0:planOf Tryz.prog (drawN Tryz.f91 0)=some [(some (0,2)),(some (0,2)),none,none,none,none,none,none,none]:=by decide +kernel
theorem pl_fact1:planOf Tryz.prog (drawN Tryz.f91 1)=some [(some (0,2)),(some (0,2)),(some (0,2)),(some (0,2)),none,none,none,none,none,none]:=by decide +kernel
section
variable {E:Hooks} (hE:Plain E) {r lid:Nat} {L:List Tk} {n:Nat}
include hE
theorem index_walk (ih:RowOK (E:=E) r lid L n):IndexOK (E:=E) r lid L (n+1):=by
 intro lv s e s' hx hl0 hl24 H h
 have hr:=h.lt
 have hl:=h.lid_lt
 have hsm:=h.small
 have h0:RD (H.push (.row true 0 1 z6)) r lid L s:=h.same (Same.push _ _ _)
 obtain⟨HA,eA,kA⟩:=is_run hE h0 (b1 91)
 have hA:=h0.same kA
 have nA:=kA.n
 simp at nA
 simp only[z6,b1]at eA
 have kA2:Same (·=r) (H.push (.row true 0 1 z6)) HA:=Same.none kA
 rw[c_index hE,callB,bodyOf]
 rw[xP]at hx
 by_cases hi:isP L s (b1 91)=false
 · rw[if_pos hi]at hx
   cases hx
   obtain⟨HB,eB,kB,hB⟩:=fault_run hE hA 14
   have nB:=kB.n
   have kk:=kA2.trans kB
   have gB:HB.get H.n = .row true 0 1 z6:=kk.at (Heap.get_push_self _ _) (by simp) (by omega)
   have hnB:H.n<HB.n:=by omega
   simp only[b1]at hi
   simp only[z6]at gB
   simp[Tryz.f80,eA,hi,eB,gB,hnB]
   exact⟨_,rfl,ret_store h kk hB (RE.nil _ _ _ _ _ _ _) _⟩
 · rw[if_neg hi]at hx
   have hy:isP L s (b1 91)=true:=by simpa using hi
   have hc:s.c=0:=by
    unfold isP at hy
    simp only[decide_eq_true_eq]at hy
    exact hy.1
   have hlt:=isP_lt hy
   obtain⟨HC,eC,kC,hC⟩:=opens_run hE hA (lv+1)
   have nC:=kC.n
   have kAC:=kA2.trans kC
   have hw:=wrap64 (lv+1) (by omega) (by omega)
   simp only[b1]at hy
   by_cases ho:(opensS L s (lv+1)).c≠0
   · rw[if_pos ho]at hx
     cases hx
     obtain⟨HB,eB,kB,hB⟩:=fault_run hE hC 14
     have nB:=kB.n
     have kk:=kAC.trans kB
     have gB:HB.get H.n = .row true 0 1 z6:=kk.at (Heap.get_push_self _ _) (by simp) (by omega)
     have hnB:H.n<HB.n:=by omega
     simp only[z6]at gB
     simp[Tryz.f80,eA,hy,hw,eC,ho,eB,gB,hnB]
     exact⟨_,rfl,ret_store h kk hB (RE.nil _ _ _ _ _ _ _) _⟩
   · rw[if_neg ho]at hx
     obtain⟨hos,hlv⟩:=opens_ok ho hc
     have ho2:(opensS L s (lv+1)).c=0:=by rw[hos];exact hc
     rw[hos]at hx hC
     simp only[Option.map_eq_some_iff]at hx
     obtain⟨⟨e1x,s1x⟩,hx1,hx2⟩:=hx
     cases hx2
     obtain⟨kD,hD⟩:=hC.on kAC hc hlt
     obtain⟨o,H1,e1,cs,rfl,k1,h1,r1⟩:=ih _ _ _ _ _ hx1 (by omega) (by omega) (by omega) hlv _ hD
     obtain⟨a,b,c,d,x,v,rfl,hv1,hv2⟩:=r1.six
     have n1:=k1.n
     simp at n1
     have kk:=(kD.trans k1).then_push (.row true 0 1 [.int .i64 a,.int .i64 b,.int .i64 c,.int .i64 d,.string x,v])
     have h2:=h1.same (Same.push _ _ (.row true 0 1 [.int .i64 a,.int .i64 b,.int .i64 c,.int .i64 d,.string x,v]))
     obtain⟨H3,e3,k3,h3⟩:=must_run hE h2 (b1 93)
     have n3:=k3.n
     simp at n3
     have k4:=kk.trans k3
     have g3:H3.get H.n = .row true 0 1 z6:=k4.at (Heap.get_push_self _ _) (by simp) (by omega)
     have g3X:H3.get H1.n = .row true 0 1 [.int .i64 a,.int .i64 b,.int .i64 c,.int .i64 d,.string x,v]:=k3.at (Heap.get_push_self _ _) (by simp) (by omega)
     have hn3:H.n<H3.n:=by omega
     have hobj:=hC.obj
     have hw2:=wrap64 ((s.p:Int)+1) (by omega) (by omega)
     simp only[z6]at g3
     simp only[b1]at e3
     have r3:RE H3 (fun i=>H.n+1≤i) _ _:=RE.move k3 (fun i hi hlt=>⟨hi,by omega⟩) _ _ (RE.move (Same.push (fun _=>False) H1 (.row true 0 1 [.int .i64 a,.int .i64 b,.int .i64 c,.int .i64 d,.string x,v])) (S':=fun i=>H.n+1≤i) (fun i hi hlt=>⟨by simp at hi;omega,fun h=>h⟩) _ _ r1)
     simp[Tryz.f80,eA,hy,hw,eC,ho2,hc,hobj,hw2,e1,hv1,e3,g3,g3X,hn3]
     exact⟨_,rfl,ret_store h k4 h3 r3 _⟩
theorem fact_walk (ih:RowOK (E:=E) r lid L n∧FactOK (E:=E) r lid L n∧IndexOK (E:=E) r lid L n):FactOK (E:=E) r lid L (n+1):=by
 intro lv s e s' hx hl0 hl24 H h
 have hr:=h.lt
 have hl:=h.lid_lt
 have hsm:=h.small
 have h0:RD (H.push (.row true 0 1 z6)) r lid L s:=h.same (Same.push _ _ _)
 obtain⟨HA,eA,kA⟩:=now_run hE h0
 have hA:=h0.same kA
 have nA:=kA.n
 simp at nA
 have hT:=hA.same (Same.push _ _ (.row true 0 1 (tok L s.p).cells))
 have kT:Same (fun _=>False) (H.push (.row true 0 1 z6)) (HA.push (.row true 0 1 (tok L s.p).cells)):=kA.then_push _
 have gT:(HA.push (.row true 0 1 (tok L s.p).cells)).get HA.n = .row true 0 1 (tok L s.p).cells:=Heap.get_push_self _ _
 have nT:(HA.push (.row true 0 1 (tok L s.p).cells)).n=HA.n+1:=rfl
 obtain⟨HM,eM,kM⟩:=is_run hE hT (b1 45)
 have hM:=hT.same kM
 have nM:=kM.n
 have kTM:=kT.trans kM
 have gMT:=kM.at gT (by simp) (fun h=>h)
 rw[c_fact hE,callB,bodyOf]
 rw[xP]at hx
 have hop0:∀ x,isP L s x=true→s.c=0:=fun x hy=>by
  unfold isP at hy
  simp only[decide_eq_true_eq]at hy
  exact hy.1
 have hw:=wrap64 (lv+1) (by omega) (by omega)
 have hw2:s.p<L.length→IntKind.i64.wrap ((s.p:Int)+1)=(s.p:Int)+1:=fun hp=>wrap64 _ (by omega) (by omega)
 generalize htk:tok L s.p=tk at *
 simp only[Tk.v,Tk.cells,z6,b1]at eA eM gT gMT
 by_cases cM:isP L s (b1 45)=true
 · rw[if_pos cM]at hx
   have hc:=hop0 _ cM
   have hlt:=isP_lt cM
   obtain⟨HC,eC,kC,hC⟩:=opens_run hE hM (lv+1)
   have nC:=kC.n
   have kAC:=(Same.none (X:=(·=r)) kTM).trans kC
   have hw2:=hw2 hlt
   have gC:HC.get H.n = .row true 0 1 z6:=kAC.at (Heap.get_push_self _ _) (by simp) (by omega)
   have gCT:=kC.at gMT (by simp) (by omega)
   have hnC:H.n<HC.n:=by omega
   simp only[b1]at cM
   simp only[z6]at gC
   by_cases ho:(opensS L s (lv+1)).c≠0
   · rw[if_pos ho]at hx
     cases hx
     simp[Tryz.f91,eA,eM,cM,hw,eC,ho,gC,hnC]
     exact⟨_,rfl,ret_store h kAC hC (RE.nil _ _ _ _ _ _ _) _⟩
   · rw[if_neg ho]at hx
     obtain⟨hos,hlv⟩:=opens_ok ho hc
     have ho2:(opensS L s (lv+1)).c=0:=by rw[hos];exact hc
     rw[hos]at hx hC
     simp only[Option.map_eq_some_iff]at hx
     obtain⟨⟨e1x,s1x⟩,hx1,hx2⟩:=hx
     cases hx2
     obtain⟨kD,hD⟩:=hC.on kAC hc hlt
     obtain⟨o,H1,e1,cs,rfl,k1,h1,r1⟩:=ih.2.1 _ _ _ _ hx1 (by omega) hlv _ hD
     obtain⟨a,b,c,d,x,v,rfl,hv1,hv2⟩:=r1.six
     have n1:=k1.n
     simp at n1
     have kk:=kD.trans k1
     have g1:H1.get H.n = .row true 0 1 z6:=kk.at (Heap.get_push_self _ _) (by simp) (by omega)
     have gDT:(HC.set r (.row true 0 1 [.slice (some ⟨lid,0,none⟩) L.length L.length,.int .i64 (s.p+1),.int .i64 0,.int .i64 s.a])).get HA.n=_:=(gsn _ (by omega)).trans gCT
     have g1T:=k1.at gDT (by simp) (by omega)
     have hobj:=hC.obj
     have hn1:H.n<H1.n:=by omega
     have hn2:HA.n<H1.n:=by omega
     simp only[z6]at g1
     simp[Tryz.f91,eA,eM,cM,hw,eC,ho2,hc,hobj,hw2]
     refine region_plan (by exact pl_fact0) ?_
     simp[hw,gDT,e1,hv1,g1,g1T,hn1,hn2]
     exact⟨_,rfl,ret_one h kk h1 (RE.move (Same.refl (fun _=>False) _) (fun i hi _=>⟨by simp at hi;omega,fun h=>h⟩) _ _ r1) _ _ _ _ _ _⟩
 · rw[if_neg cM]at hx
   have cM':isP L s (b1 45)=false:=by simpa using cM
   simp only[b1]at cM'
   have kM2:=Same.none (X:=(·=r)) kTM
   have gM:HM.get H.n = .row true 0 1 z6:=kM2.at (Heap.get_push_self _ _) (by simp) (by omega)
   have hnM:H.n<HM.n:=by omega
   by_cases c2:tk.kind=2
   · rw[if_pos c2]at hx
     cases hx
     have hlt:s.p<L.length:=tok_ge_kind (by rw[htk];omega)
     have hw2:=hw2 hlt
     obtain⟨kD,hD⟩:=hM.on2 kM2 hlt
     have hobj:=hM.obj
     have d2:decide (tk.kind=2)=true:=by simpa using c2
     simp only[z6]at gM
     simp[Tryz.f91,eA,eM,cM',gMT,d2,hobj,hw2,gM,hnM,hr,show ¬HA.n=r by omega,show ¬H.n=r by omega]
     exact⟨_,rfl,ret_store h kD hD (RE.nil _ _ _ _ _ _ _) _⟩
   · rw[if_neg c2]at hx
     obtain⟨HU,eU,kU,hU⟩:=take_run hE hM tTrue
     simp only[tTrue]at eU
     by_cases cU:isP L s tTrue=true
     · rw[if_pos cU]at hx
       cases hx
       have hU:RD HU r lid L s.on:=by unfold takeS at hU;rw[if_pos cU]at hU;exact hU
       have kk:=kM2.trans kU
       have nU:=kU.n
       have gU:HU.get H.n = .row true 0 1 z6:=kk.at (Heap.get_push_self _ _) (by simp) (by omega)
       have gUT:=kU.at gMT (by simp) (by omega)
       have hnU:H.n<HU.n:=by omega
       simp only[tTrue]at cU
       simp only[z6]at gU
       simp[Tryz.f91,eA,eM,cM',gMT,c2,eU,cU,gU,gUT,hnU]
       exact⟨_,rfl,ret_store h kk hU (RE.nil _ _ _ _ _ _ _) _⟩
     rw[if_neg cU]at hx
     have hU:RD HU r lid L s:=by unfold takeS at hU;rw[if_neg cU]at hU;exact hU
     have cU':isP L s tTrue=false:=by simpa using cU
     have nU:=kU.n
     have gUT:=kU.at gMT (by simp) (by omega)
     simp only[tTrue]at cU'
     obtain⟨HV,eV,kV,hV⟩:=take_run hE hU tFalse
     simp only[tFalse]at eV
     have nV:=kV.n
     have kk:=(kM2.trans kU).trans kV
     have gV:HV.get H.n = .row true 0 1 z6:=kk.at (Heap.get_push_self _ _) (by simp) (by omega)
     have gVT:=kV.at gUT (by simp) (by omega)
     have hnV:H.n<HV.n:=by omega
     by_cases cV:isP L s tFalse=true
     · rw[if_pos cV]at hx
       cases hx
       have hV:RD HV r lid L s.on:=by unfold takeS at hV;rw[if_pos cV]at hV;exact hV
       simp only[tFalse]at cV
       simp only[z6]at gV
       simp[Tryz.f91,eA,eM,cM',gMT,c2,eU,cU',eV,cV,gV,gVT,hnV]
       exact⟨_,rfl,ret_store h kk hV (RE.nil _ _ _ _ _ _ _) _⟩
     rw[if_neg cV]at hx
     have hV:RD HV r lid L s:=by unfold takeS at hV;rw[if_neg cV]at hV;exact hV
     have cV':isP L s tFalse=false:=by simpa using cV
     simp only[tFalse]at cV'
     obtain⟨HX,eX,kX⟩:=is_run hE hV (b1 40)
     have hX:=hV.same kX
     have nX:=kX.n
     have kX2:=kk.trans (Same.none kX)
     have gX:HX.get H.n = .row true 0 1 z6:=kX2.at (Heap.get_push_self _ _) (by simp) (by omega)
     have gXT:=kX.at gVT (by simp) (fun h=>h)
     have hnX:H.n<HX.n:=by omega
     simp only[b1]at eX
     by_cases cX:isP L s (b1 40)=true
     · rw[if_pos cX]at hx
       have hc:=hop0 _ cX
       have hlt:=isP_lt cX
       obtain⟨HC,eC,kC,hC⟩:=opens_run hE hX (lv+1)
       have nC:=kC.n
       have kAC:=kX2.trans kC
       have hw2:=hw2 hlt
       have gC:HC.get H.n = .row true 0 1 z6:=kAC.at (Heap.get_push_self _ _) (by simp) (by omega)
       have hnC:H.n<HC.n:=by omega
       simp only[b1]at cX
       simp only[z6]at gC
       by_cases ho:(opensS L s (lv+1)).c≠0
       · rw[if_pos ho]at hx
         cases hx
         simp[Tryz.f91,eA,eM,cM',gMT,c2,eU,cU',eV,cV',eX,cX,hw,eC,ho,gC,hnC]
         exact⟨_,rfl,ret_store h kAC hC (RE.nil _ _ _ _ _ _ _) _⟩
       · rw[if_neg ho]at hx
         obtain⟨hos,hlv⟩:=opens_ok ho hc
         have ho2:(opensS L s (lv+1)).c=0:=by rw[hos];exact hc
         rw[hos]at hx hC
         simp only[Option.map_eq_some_iff]at hx
         obtain⟨⟨e1x,s1x⟩,hx1,hx2⟩:=hx
         cases hx2
         obtain⟨kD,hD⟩:=hC.on kAC hc hlt
         obtain⟨o,H1,e1,cs,rfl,k1,h1,r1⟩:=ih.1 _ _ _ _ _ hx1 (by omega) (by omega) (by omega) hlv _ hD
         obtain⟨a,b,c,d,x,v,rfl,hv1,hv2⟩:=r1.six
         have n1:=k1.n
         simp at n1
         have kk:=(kD.trans k1).then_push (.row true 0 1 [.int .i64 a,.int .i64 b,.int .i64 c,.int .i64 d,.string x,v])
         have h2:=h1.same (Same.push _ _ (.row true 0 1 [.int .i64 a,.int .i64 b,.int .i64 c,.int .i64 d,.string x,v]))
         obtain⟨H3,e3,k3,h3⟩:=must_run hE h2 (b1 41)
         have n3:=k3.n
         simp at n3
         have k4:=kk.trans k3
         have g3:H3.get H.n = .row true 0 1 z6:=k4.at (Heap.get_push_self _ _) (by simp) (by omega)
         have g3X:H3.get H1.n = .row true 0 1 [.int .i64 a,.int .i64 b,.int .i64 c,.int .i64 d,.string x,v]:=k3.at (Heap.get_push_self _ _) (by simp) (by omega)
         have hn3:H.n<H3.n:=by omega
         have hobj:=hC.obj
         simp only[z6]at g3
         simp only[b1]at e3
         have r3:RE H3 (fun i=>H.n+1≤i) _ _:=RE.move k3 (fun i hi hlt=>⟨hi,by omega⟩) _ _ (RE.move (Same.push (fun _=>False) H1 (.row true 0 1 [.int .i64 a,.int .i64 b,.int .i64 c,.int .i64 d,.string x,v])) (S':=fun i=>H.n+1≤i) (fun i hi hlt=>⟨by simp at hi;omega,fun h=>h⟩) _ _ r1)
         simp[Tryz.f91,eA,eM,cM',gMT,c2,eU,cU',eV,cV',eX,cX,hw,eC,ho2,hc,hobj,hw2,e1,hv1,e3,g3,g3X,hn3]
         exact⟨_,rfl,ret_store h k4 h3 r3 _⟩
     rw[if_neg cX]at hx
     have cX':isP L s (b1 40)=false:=by simpa using cX
     simp only[b1]at cX'
     by_cases c1:tk.kind=1
     · rw[if_pos c1]at hx
       have hlt:s.p<L.length:=tok_ge_kind (by rw[htk];omega)
       have hw2:=hw2 hlt
       obtain⟨kD,hD⟩:=hX.on2 kX2 hlt
       have hobj:=hX.obj
       have d1:decide (tk.kind=1)=true:=by simpa using c1
       have gDT:(HX.set r (.row true 0 1 [.slice (some ⟨lid,0,none⟩) L.length L.length,.int .i64 (s.p+1),.int .i64 s.c,.int .i64 s.a])).get HA.n=_:=(gsn _ (by omega)).trans gXT
       have nD:(HX.set r (.row true 0 1 [.slice (some ⟨lid,0,none⟩) L.length L.length,.int .i64 (s.p+1),.int .i64 s.c,.int .i64 s.a])).n=HX.n:=rfl
       generalize hHD:HX.set r (.row true 0 1 [.slice (some ⟨lid,0,none⟩) L.length L.length,.int .i64 (s.p+1),.int .i64 s.c,.int .i64 s.a])=HD at *
       obtain⟨HY,eY,kY⟩:=is_run hE hD (b1 91)
       have hY:=hD.same kY
       have nY:=kY.n
       have kY2:=kD.trans (Same.none kY)
       have gY:HY.get H.n = .row true 0 1 z6:=kY2.at (Heap.get_push_self _ _) (by simp) (by omega)
       have gYT:=kY.at gDT (by simp) (fun h=>h)
       have hnY:H.n<HY.n:=by omega
       simp only[b1]at eY
       simp only[z6]at gY
       by_cases cY:isP L s.on (b1 91)=false
       · rw[if_pos cY]at hx
         cases hx
         simp only[b1]at cY
         simp[Tryz.f91,eA,eM,cM',gMT,c2,eU,cU',eV,cV',eX,cX',gXT,d1,hobj,hw2,hHD,eY,cY,gY,gYT,hnY]
         exact⟨_,rfl,ret_store h kY2 hY (RE.nil _ _ _ _ _ _ _) _⟩
       · rw[if_neg cY]at hx
         have cY':isP L s.on (b1 91)=true:=by simpa using cY
         simp only[b1]at cY'
         simp only[Option.map_eq_some_iff]at hx
         obtain⟨⟨e1x,s1x⟩,hx1,hx2⟩:=hx
         cases hx2
         obtain⟨o,H1,e1,cs,rfl,k1,h1,r1⟩:=ih.2.2 _ _ _ _ hx1 hl0 hl24 _ hY
         obtain⟨a,b,c,d,x,v,rfl,hv1,hv2⟩:=r1.six
         have n1:=k1.n
         have kk:=kY2.trans k1
         have g1:H1.get H.n = .row true 0 1 z6:=kk.at (Heap.get_push_self _ _) (by simp) (by omega)
         have g1T:=k1.at gYT (by simp) (by omega)
         have hn1:H.n<H1.n:=by omega
         have hn2:HA.n<H1.n:=by omega
         simp only[z6]at g1
         simp[Tryz.f91,eA,eM,cM',gMT,c2,eU,cU',eV,cV',eX,cX',gXT,d1,hobj,hw2,hHD,eY,cY']
         refine region_plan (by exact pl_fact1) ?_
         simp[gYT,e1,hv1,g1,g1T,hn1,hn2]
         exact⟨_,rfl,ret_one h kk h1 (RE.move (Same.refl (fun _=>False) _) (fun i hi _=>⟨by omega,fun h=>h⟩) _ _ r1) _ _ _ _ _ _⟩
     · rw[if_neg c1]at hx
       cases hx
       obtain⟨HY,eY,kY,hY⟩:=fault_run hE hX 14
       have nY:=kY.n
       have kY2:=kX2.trans kY
       have gY:HY.get H.n = .row true 0 1 z6:=kY2.at (Heap.get_push_self _ _) (by simp) (by omega)
       have hnY:H.n<HY.n:=by omega
       simp only[z6]at gY
       simp[Tryz.f91,eA,eM,cM',gMT,c2,eU,cU',eV,cV',eX,cX',gXT,c1,eY,gY,hnY]
       exact⟨_,rfl,ret_store h kY2 hY (RE.nil _ _ _ _ _ _ _) _⟩
theorem x_all:∀ n,RowOK (E:=E) r lid L n∧FactOK (E:=E) r lid L n∧IndexOK (E:=E) r lid L n:=by
 intro n
 induction n using Nat.strongRecOn with
 | _ n ih =>
  cases n with
  | zero=>exact⟨fun _ _ _ _ _ h=>(by cases h),fun _ _ _ _ h=>(by cases h),fun _ _ _ _ h=>(by cases h)⟩
  | succ n=>exact⟨row_walk hE fun m hm=>⟨(ih m (by omega)).1,(ih m (by omega)).2.1⟩,fact_walk hE (ih n (by omega)),index_walk hE (ih n (by omega)).1⟩
end
end Go.Vm.Parse
namespace Go.Vm.Parse
open Go Go.Proofs
theorem takeS_c (L:List Tk)(s:PS)(x:ByteArray):(takeS L s x).c=s.c∧s.p≤(takeS L s x).p:=by
 unfold takeS
 split<;>simp
structure PS.le (s s':PS):Prop where
 place:s.p≤s'.p
 code:s'.c=0→s.c=0
theorem PS.le_refl (s:PS):s.le s:=⟨Nat.le_refl _,fun h=>h⟩
theorem PS.le.le_trans {a b c:PS}(h:a.le b)(k:b.le c):a.le c:=⟨Nat.le_trans h.place k.place,fun e=>h.code (k.code e)⟩
theorem PS.le_on (s:PS):s.le s.on:=⟨Nat.le_succ _,fun h=>h⟩
theorem faultS_le (L:List Tk)(s:PS){c:Int}(hc:c≠0):s.le (faultS L s c)∧(faultS L s c).c≠0:=by
 unfold faultS
 split
 · exact⟨⟨Nat.le_refl _,fun h=>absurd h hc⟩,hc⟩
 · rename_i h;exact⟨PS.le_refl _,h⟩
theorem takeS_le (L:List Tk)(s:PS)(x:ByteArray):s.le (takeS L s x):=⟨(takeS_c L s x).2,fun h=>by rw[(takeS_c L s x).1]at h;exact h⟩
theorem mustS_le (L:List Tk)(s:PS)(x:ByteArray):s.le (mustS L s x):=by
 unfold mustS
 split
 · exact PS.le_on s
 · exact (faultS_le L s (by omega)).1
theorem opensS_le (L:List Tk)(s:PS)(lv:Int):s.le (opensS L s lv):=by
 unfold opensS
 split
 · exact (faultS_le L s (by omega)).1
 · exact PS.le_refl _
theorem nameS_le (L:List Tk)(s:PS):s.le (nameS L s)∧((nameS L s).c=0→s.p<(nameS L s).p):=by
 unfold nameS
 split
 · exact⟨PS.le_on s,fun _=>Nat.lt_succ_self _⟩
 · have:=faultS_le L s (c:=14) (by omega);exact⟨this.1,fun h=>absurd h this.2⟩
theorem numS_le (L:List Tk)(s:PS):s.le (numS L s):=by
 unfold numS
 split
 · exact PS.le_on s
 · exact (faultS_le L s (by omega)).1
def XC.isLoop:XC→Bool
 | .loop .. => true
 | _=>false
theorem x_le (L:List Tk):∀ n cmd s e s',xP L n cmd s=some (e,s')→s.le s'∧(cmd.isLoop=false→s'.c=0→s.p<s'.p):=by
 intro n
 induction n with
 | zero=>intro cmd s e s' h;cases h
 | succ n ih =>
  intro cmd s e s' h
  have st:∀ {a b:PS},a.on.le b→a.p<b.p:=fun h=>Nat.lt_of_lt_of_le (Nat.lt_succ_self _) h.1
  have op:∀ {lv:Int},¬(opensS L s lv).c≠0→(opensS L s lv).p=s.p∧(opensS L s lv).c=0:=fun {lv} h=>by
   unfold opensS at *
   split at h
   · rename_i hl;exact absurd (faultS_le L s (by omega)).2 h
   · rename_i hl;rw[if_neg hl];exact⟨rfl,by simpa using h⟩
  cases cmd with
  | row k lv =>
   rw[xP]at h
   split at h
   · rename_i hc;cases h;exact⟨PS.le_refl _,fun _ h=>absurd h hc⟩
   · split at h
     · have:=ih _ _ _ _ h;exact⟨this.1,fun _=>this.2 rfl⟩
     · split at h
       · split at h
         · have:=ih _ _ _ _ h;exact⟨this.1,fun _=>this.2 rfl⟩
         · split at h
           · rename_i ho;cases h;exact⟨opensS_le _ _ _,fun _ h=>absurd h ho⟩
           · rename_i ho
             simp only[Option.map_eq_some_iff]at h
             obtain⟨⟨e1,s1⟩,h1,h2⟩:=h
             cases h2
             have:=(ih _ _ _ _ h1).1
             have h3:=(op ho).1
             exact⟨(opensS_le _ _ _).le_trans ((PS.le_on _).le_trans this),fun _ _=>h3 ▸ st this⟩
       · simp only[Option.bind_eq_some_iff]at h
         obtain⟨⟨e1,s1⟩,h1,h2⟩:=h
         have a:=ih _ _ _ _ h1
         have b:=ih _ _ _ _ h2
         exact⟨a.1.le_trans b.1,fun _ hc=>Nat.lt_of_lt_of_le (a.2 rfl (b.1.2 hc)) b.1.1⟩
  | loop k lv x =>
   refine⟨?_,fun h=>by cases h⟩
   rw[xP]at h
   split at h
   · cases h;exact PS.le_refl _
   · simp only[Option.bind_eq_some_iff]at h
     obtain⟨⟨e1,s1⟩,h1,h2⟩:=h
     have a:=(PS.le_on s).le_trans (ih _ _ _ _ h1).1
     split at h2
     · cases h2;exact a
     · exact a.le_trans (ih _ _ _ _ h2).1
  | fact lv =>
   rw[xP]at h
   split at h
   · split at h
     · rename_i ho;cases h;exact⟨opensS_le _ _ _,fun _ h=>absurd h ho⟩
     · rename_i ho
       simp only[Option.map_eq_some_iff]at h
       obtain⟨⟨e1,s1⟩,h1,h2⟩:=h
       cases h2
       have:=(ih _ _ _ _ h1).1
       have h3:=(op ho).1
       exact⟨(opensS_le _ _ _).le_trans ((PS.le_on _).le_trans this),fun _ _=>h3 ▸ st this⟩
   · split at h
     · cases h;exact⟨PS.le_on s,fun _ _=>Nat.lt_succ_self _⟩
     · split at h
       · cases h;exact⟨PS.le_on s,fun _ _=>Nat.lt_succ_self _⟩
       · split at h
         · cases h;exact⟨PS.le_on s,fun _ _=>Nat.lt_succ_self _⟩
         · split at h
           · split at h
             · rename_i ho;cases h;exact⟨opensS_le _ _ _,fun _ h=>absurd h ho⟩
             · rename_i ho
               simp only[Option.map_eq_some_iff]at h
               obtain⟨⟨e1,s1⟩,h1,h2⟩:=h
               cases h2
               have:=(ih _ _ _ _ h1).1
               have h3:=(op ho).1
               have h4:=mustS_le L s1 (b1 41)
               exact⟨(opensS_le _ _ _).le_trans ((PS.le_on _).le_trans (this.le_trans h4)),fun _ _=>h3 ▸ st (this.le_trans h4)⟩
           · split at h
             · split at h
               · cases h;exact⟨PS.le_on s,fun _ _=>Nat.lt_succ_self _⟩
               · simp only[Option.map_eq_some_iff]at h
                 obtain⟨⟨e1,s1⟩,h1,h2⟩:=h
                 cases h2
                 have:=(ih _ _ _ _ h1).1
                 exact⟨(PS.le_on s).le_trans this,fun _ _=>st this⟩
             · cases h
               have:=faultS_le L s (c:=14) (by omega)
               exact⟨this.1,fun _ h=>absurd h this.2⟩
  | index lv =>
   rw[xP]at h
   split at h
   · cases h
     have:=faultS_le L s (c:=14) (by omega)
     exact⟨this.1,fun _ h=>absurd h this.2⟩
   · split at h
     · cases h
       have:=faultS_le L (opensS L s (lv+1)) (c:=14) (by omega)
       exact⟨(opensS_le _ _ _).le_trans this.1,fun _ h=>absurd h this.2⟩
     · rename_i ho
       simp only[Option.map_eq_some_iff]at h
       obtain⟨⟨e1,s1⟩,h1,h2⟩:=h
       cases h2
       have:=(ih _ _ _ _ h1).1
       have h3:=(op ho).1
       have h4:=mustS_le L s1 (b1 93)
       exact⟨(opensS_le _ _ _).le_trans ((PS.le_on _).le_trans (this.le_trans h4)),fun _ _=>h3 ▸ st (this.le_trans h4)⟩
end Go.Vm.Parse
namespace Go.Vm
def Tot {α:Type}(f:Nat→Option α):Prop:=∃ m r,∀ n,m≤n→f n=some r
theorem Tot.pure {α:Type}(r:α):Tot fun _=>some r:=⟨0,r,fun _ _=>rfl⟩
theorem Tot.succ {α:Type}{f g:Nat→Option α}(h:Tot g)(e:∀ n,f (n+1)=g n):Tot f:=by
 obtain⟨m,r,h⟩:=h
 refine⟨m+1,r,fun n hn => ?_⟩
 obtain⟨k,rfl⟩:∃ k,n=k+1:=⟨n - 1,by omega⟩
 rw[e k];exact h k (by omega)
theorem Tot.bind {α β:Type}{f:Nat→Option α}{g:α→Nat→Option β}(h:Tot f)(k:∀ n r,f n=some r→Tot (g r)):Tot fun n=>(f n).bind fun r=>g r n:=by
 obtain⟨m,r,h⟩:=h
 obtain⟨m2,r2,h2⟩:=k m r (h m (Nat.le_refl m))
 exact⟨max m m2,r2,fun n hn=>by show (f n).bind _=_;rw[h n (by omega)];exact h2 n (by omega)⟩
theorem Tot.map {α β:Type}{f:Nat→Option α}(h:Tot f)(g:α→β):Tot fun n=>(f n).map g:=by
 obtain⟨m,r,h⟩:=h
 exact⟨m,g r,fun n hn=>by show (f n).map g=_;rw[h n hn];rfl⟩
theorem Tot.ite {α:Type}{c:Prop} [Decidable c] {f g:Nat→Option α}(hf:c→Tot f)(hg:¬c→Tot g):Tot fun n=>if c then f n else g n:=by
 by_cases h:c
 · obtain⟨m,r,k⟩:=hf h;exact⟨m,r,fun n hn=>(if_pos h).trans (k n hn)⟩
 · obtain⟨m,r,k⟩:=hg h;exact⟨m,r,fun n hn=>(if_neg h).trans (k n hn)⟩
theorem Tot.some {α:Type}{f:Nat→Option α}(h:Tot f):∃ n r,f n=some r:=let ⟨m,r,h⟩:=h;⟨m,r,h m (Nat.le_refl m)⟩
end Go.Vm
namespace Go.Vm.Parse
open Go Go.Proofs
theorem opP_lt {L:List Tk}{s:PS}{k:Int}(h:opP L s k≠0):s.c=0∧s.p<L.length:=by
 unfold opP at h
 split at h
 · rename_i hc;exact⟨hc.1,tok_ge_kind (by rcases hc.2 with h | h<;>omega)⟩
 · exact absurd rfl h
theorem opensS_p (L:List Tk)(s:PS)(lv:Int):(opensS L s lv).p=s.p:=by
 unfold opensS faultS
 split
 · split<;>rfl
 · rfl
def XC.ok:XC→Prop
 | .row k _=>1≤k∧k≤7
 | .loop k _ _=>1≤k∧k≤6∧k≠3
 | _=>True
theorem x_tot (L:List Tk):∀ M s,L.length - s.p≤M→∀ cmd:XC,cmd.ok→Tot fun n=>xP L n cmd s:=by
 intro M
 induction M using Nat.strongRecOn with
 | _ M ih =>
 intro s hM
 have ih':∀ s',s.p<L.length→s.p<s'.p→∀ cmd:XC,cmd.ok→Tot fun n=>xP L n cmd s':=fun s' h1 h2 cmd hc=>ih (L.length - s'.p) (by omega) s' (Nat.le_refl _) cmd hc
 have on:∀ lv,(opensS L s lv).on.p=s.p+1:=fun lv=>by show (opensS L s lv).p+1=_;rw[opensS_p]
 have tFact:∀ lv,Tot fun n=>xP L n (.fact lv) s:=fun lv=>by
  refine Tot.succ ?_ (fun n=>by rw[xP])
  refine Tot.ite (fun h => ?_) (fun _ => ?_)
  · refine Tot.ite (fun _=>Tot.pure _) (fun _ => ?_)
    exact (ih' _ (isP_lt h) (by rw[on];omega) (.fact (lv+1)) trivial).map _
  refine Tot.ite (fun h=>Tot.pure _) (fun _ => ?_)
  refine Tot.ite (fun h=>Tot.pure _) (fun _ => ?_)
  refine Tot.ite (fun h=>Tot.pure _) (fun _ => ?_)
  refine Tot.ite (fun h => ?_) (fun _ => ?_)
  · refine Tot.ite (fun _=>Tot.pure _) (fun _ => ?_)
    exact (ih' _ (isP_lt h) (by rw[on];omega) (.row 1 (lv+1)) ⟨by omega,by omega⟩).map _
  refine Tot.ite (fun h => ?_) (fun _=>Tot.pure _)
  refine Tot.ite (fun _=>Tot.pure _) (fun _ => ?_)
  exact (ih' s.on (tok_ge_kind (by omega)) (Nat.lt_succ_self _) (.index lv) trivial).map _
 have tIndex:∀ lv,Tot fun n=>xP L n (.index lv) s:=fun lv=>by
  refine Tot.succ ?_ (fun n=>by rw[xP])
  refine Tot.ite (fun h=>Tot.pure _) (fun h => ?_)
  refine Tot.ite (fun _=>Tot.pure _) (fun _ => ?_)
  exact (ih' _ (isP_lt (x:=b1 91) (by simpa using h)) (by rw[on];omega) (.row 1 (lv+1)) ⟨by omega,by omega⟩).map _
 have tLoop:∀ k lv x,(1≤k∧k≤6∧k≠3)→Tot fun n=>xP L n (.loop k lv x) s:=fun k lv x hk=>by
  refine Tot.succ ?_ (fun n=>by rw[xP])
  refine Tot.ite (fun h=>Tot.pure _) (fun h => ?_)
  have hl:=(opP_lt h).2
  refine (ih' s.on hl (Nat.lt_succ_self _) (.row (k+1) lv) ⟨by omega,by omega⟩).bind fun n q hq => ?_
  refine Tot.ite (fun h=>Tot.pure _) (fun _ => ?_)
  have:=(x_le L _ _ _ _ _ hq).1.place
  exact ih' q.2 hl (Nat.lt_of_lt_of_le (Nat.lt_succ_self s.p) this) (.loop k lv _) hk
 have tLow:∀ k lv,(1≤k∧k≤6∧k≠3)→(Tot fun n=>xP L n (.row (k+1) lv) s)→Tot fun n=>xP L n (.row k lv) s:=fun k lv hk hr=>by
  refine Tot.succ ?_ (fun n=>by rw[xP])
  refine Tot.ite (fun h=>Tot.pure _) (fun h => ?_)
  refine Tot.ite (fun h=>absurd h (by omega)) (fun _ => ?_)
  refine Tot.ite (fun h=>absurd h (by omega)) (fun _ => ?_)
  refine hr.bind fun n q hq => ?_
  by_cases ho:opP L q.2 k=0
  · exact Tot.succ (Tot.pure _) (fun n=>by rw[xP,if_pos ho])
  · have h1:=opP_lt ho
    have h2:=x_le L _ _ _ _ _ hq
    exact ih' q.2 (Nat.lt_of_le_of_lt h2.1.place h1.2) (h2.2 rfl h1.1) (.loop k lv _) hk
 have t7:∀ lv,Tot fun n=>xP L n (.row 7 lv) s:=fun lv=>by
  refine Tot.succ ?_ (fun n=>by rw[xP])
  refine Tot.ite (fun h=>Tot.pure _) (fun h => ?_)
  exact Tot.ite (fun h=>tFact lv) (fun h=>absurd rfl h)
 have t6:∀ lv,Tot fun n=>xP L n (.row 6 lv) s:=fun lv=>tLow 6 lv (by omega) (t7 lv)
 have t5:∀ lv,Tot fun n=>xP L n (.row 5 lv) s:=fun lv=>tLow 5 lv (by omega) (t6 lv)
 have t4:∀ lv,Tot fun n=>xP L n (.row 4 lv) s:=fun lv=>tLow 4 lv (by omega) (t5 lv)
 have t3:∀ lv,Tot fun n=>xP L n (.row 3 lv) s:=fun lv=>by
  refine Tot.succ ?_ (fun n=>by rw[xP])
  refine Tot.ite (fun h=>Tot.pure _) (fun h => ?_)
  refine Tot.ite (fun h=>absurd h (by omega)) (fun _ => ?_)
  refine Tot.ite (fun _ => ?_) (fun h=>absurd rfl h)
  refine Tot.ite (fun _=>t4 lv) (fun h => ?_)
  refine Tot.ite (fun _=>Tot.pure _) (fun _ => ?_)
  exact (ih' _ (isP_lt (x:=tNot) (by simpa using h)) (by rw[on];omega) (.row 3 (lv+1)) ⟨by omega,by omega⟩).map _
 have t2:∀ lv,Tot fun n=>xP L n (.row 2 lv) s:=fun lv=>tLow 2 lv (by omega) (t3 lv)
 have t1:∀ lv,Tot fun n=>xP L n (.row 1 lv) s:=fun lv=>tLow 1 lv (by omega) (t2 lv)
 intro cmd hc
 cases cmd with
 | row k lv =>
  obtain⟨h1,h2⟩:=hc
  rcases (show k=1∨k=2∨k=3∨k=4∨k=5∨k=6∨k=7 by omega)with rfl | rfl | rfl | rfl | rfl | rfl | rfl
  · exact t1 lv
  · exact t2 lv
  · exact t3 lv
  · exact t4 lv
  · exact t5 lv
  · exact t6 lv
  · exact t7 lv
 | loop k lv x=>exact tLoop k lv x hc
 | fact lv=>exact tFact lv
 | index lv=>exact tIndex lv
theorem x_ans (L:List Tk)(s:PS)(cmd:XC)(h:cmd.ok):Tot fun n=>xP L n cmd s:=x_tot L _ s (Nat.le_refl _) cmd h
theorem row_ans (L:List Tk)(s:PS)(lv:Int):Tot fun n=>xP L n (.row 1 lv) s:=x_ans L s _ ⟨by omega,by omega⟩
end Go.Vm.Parse
namespace Go.Vm
open Go.RowKit
attribute [local simp] gpe gpn spe gse gsn ne_r0 ne_l0 le_s0 ne_r1 ne_l1 lt_s1 le_s1 ne_r2 ne_l2 lt_s2 le_s2 ne_r3 ne_l3 lt_s3 le_s3 ne_r4 ne_l4 lt_s4 le_s4 ne_r5 ne_l5 lt_s5 le_s5 ne_r6 ne_l6 lt_s6 le_s6 ne_r7 ne_l7 lt_s7 le_s7
variable {P:Program}
structure TF (P:Program)(t:TypeId)(k:Nat):Prop where
 ok:∃ e b z,elemT P t=some e∧sizeT P e=some k∧bytesT P e=some b∧b≤1000∧zeroT P e=some z∧z.cells.toList.length=k∧k≠0∧P.underlying t=some (.slice e)
theorem app_one {t k:Nat}(T:TF P t k){H:Heap}{id tl n xid xt xe xc:Nat}{xo:Bool}{cs c:List Value}(hg:H.get id = .row true tl k cs)(hl:cs.length=n * k)(htl:tl≤1)(hc:c.length=k)(hx:H.get xid = .row xo xt xe c)(hn:n≤100000) :
  ∃ H',exAppend P [t,t] (.slice (some ⟨id,0,none⟩) n n) (.slice (some ⟨xid,0,none⟩) 1 xc) H=some (.slice (some ⟨H.n,0,none⟩) (n+1) (n+1),H')∧H'.get H.n = .row true 1 k (cs++c)∧H'.n=H.n+1∧Same (fun i=>i=id) H H':=by
 obtain⟨e,b,z,h1,h2,h3,h4,h5,h6,h7,h8⟩:=T.ok
 have hb:(n+1+200) * b≤140737488355328:=by
  have:(n+1+200) * b≤(100000+1+200) * 1000:=Nat.mul_le_mul (by omega) h4
  omega
 have hid:=Heap.lt_of_get hg (by simp)
 have htk:(cs.drop 0).take (n * k)=cs:=by rw[List.drop_zero];exact List.take_of_length_le (by omega)
 have hc0:cellsOf H k 1 (.slice (some ⟨xid,0,none⟩) 1 xc)=some c:=by
  simp[hx,hc]
  exact List.take_of_length_le (by omega)
 have hne:¬n+1≤n:=by omega
 rcases (show tl=0∨tl=1 by omega)with rfl | rfl
 · refine⟨H.push (.row true 1 k (cs++c)),?_,Heap.get_push_self _ _,rfl,Same.push _ _ _⟩
   simp only[exAppend,h1,h8,exAppendRow,h2,h3,h5,lenA,hc0,hg]
   simp[h7,h6,hb,show n+1≤140737488355328 by omega,hne,hl]
   rw[← hl,List.take_length]
 · refine⟨(H.set id .dead).push (.row true 1 k (cs++c)),?_,?_,rfl,(Same.set (X:=fun i=>i=id) H hid rfl _).trans (Same.push _ _ _)⟩
   · simp only[exAppend,h1,h8,exAppendRow,h2,h3,h5,lenA,hc0,hg]
     simp[h7,h6,hb,show n+1≤140737488355328 by omega,hne,hl]
     rw[← hl,List.take_length]
   · exact Heap.get_push_self (H.set id .dead) _
theorem app_nil {t k:Nat}(T:TF P t k){H:Heap}{xid xt xe xc:Nat}{xo:Bool}{c:List Value}(hc:c.length=k)(hx:H.get xid = .row xo xt xe c) :
  exAppend P [t,t] (.slice none 0 0) (.slice (some ⟨xid,0,none⟩) 1 xc) H=some (.slice (some ⟨H.n,0,none⟩) 1 1,H.push (.row true 1 k c)):=by
 obtain⟨e,b,z,h1,h2,h3,h4,h5,h6,h7,h8⟩:=T.ok
 have hb:(0+1+200) * b≤140737488355328:=by
  have:(0+1+200) * b≤(0+1+200) * 1000:=Nat.mul_le_mul (by omega) h4
  omega
 have hc0:cellsOf H k 1 (.slice (some ⟨xid,0,none⟩) 1 xc)=some c:=by
  simp[hx,hc]
  exact List.take_of_length_le (by omega)
 simp only[exAppend,h1,h8,exAppendRow,h2,h3,h5,lenA,hc0]
 simp[h7,h6]
 omega
end Go.Vm
namespace Go.Vm
variable {P:Program}
def idxA (P:Program)(ty:TypeId)(a b:Option Value)(H:Heap):Option (Out × Heap):=match a,b with
 | some (.agg cs), some (.int _ i) => match P.underlying ty with
  | some (.array len e) => match sizeT P e with
   | some n=>if 0≤i∧i<len then val1 (partA P e cs.toList (i.toNat * n)) H else none
   | none=>none
  | _=>none
 | some (.string s),some (.int k i)=>val1 (ifGround (pureRun P (Instr.index ty (.string s) (.int k i)))) H
 | _,_=>none
theorem op_index (call:CallA)(ty:TypeId)(x i:Operand)(t:List Value)(H:Heap):exOp P call (.index ty x i) t H=idxA P ty (evA t x) (evA t i) H:=by
 simp only[exOp];rfl
theorem idxA_str (ty:TypeId)(s:ByteArray)(k:IntKind)(i:Int)(H:Heap):idxA P ty (some (.string s)) (some (.int k i)) H=val1 (ifGround (pureRun P (Instr.index ty (.string s) (.int k i)))) H:=id rfl
end Go.Vm
namespace Go.Vm.Parse
open Go Go.Proofs
attribute [local simp] repCells_succ writeAt rd_Fr toList_beq gpe gpn spe gse gsn ne_r0 ne_l0 le_s0 ne_r1 ne_l1 lt_s1 le_s1 ne_r2 ne_l2 lt_s2 le_s2 ne_r3 ne_l3 lt_s3 le_s3 ne_r4 ne_l4 lt_s4 le_s4 ne_r5 ne_l5 lt_s5 le_s5 ne_r6 ne_l6 lt_s6 le_s6 ne_r7 ne_l7 lt_s7 le_s7
def letterB (b:UInt8):Bool:=decide (97≤b.toNat∧b.toNat≤122)
def digitB (b:UInt8):Bool:=decide (48≤b.toNat∧b.toNat≤57)
def wordsL:List ByteArray:=[⟨#[112,114,111,103,114,97,109]⟩,⟨#[114,101,115,111,117,114,99,101]⟩,⟨#[115,101,109,97,112,104,111,114,101]⟩,⟨#[115,104,97,114,101,100]⟩,⟨#[118,97,114]⟩,⟨#[112,114,111,99,101,100,117,114,101]⟩,⟨#[99,108,97,105,109,115]⟩,⟨#[98,101,103,105,110]⟩,⟨#[101,110,100]⟩,⟨#[105,102]⟩,⟨#[116,104,101,110]⟩,⟨#[101,108,115,101]⟩,⟨#[102,105]⟩,⟨#[119,104,105,108,101]⟩,⟨#[100,111]⟩,⟨#[111,100]⟩,⟨#[99,111,98,101,103,105,110]⟩,⟨#[99,111,101,110,100]⟩,⟨#[114,101,103,105,111,110]⟩,⟨#[119,104,101,110]⟩,⟨#[114,101,113,117,101,115,116]⟩,⟨#[114,101,108,101,97,115,101]⟩,⟨#[119,114,105,116,101]⟩,⟨#[114,101,97,100]⟩,⟨#[115,107,105,112]⟩,⟨#[116,114,117,101]⟩,⟨#[102,97,108,115,101]⟩,⟨#[97,110,100]⟩,⟨#[111,114]⟩,⟨#[110,111,116]⟩,⟨#[80]⟩,⟨#[86]⟩]
def isWord (x:ByteArray):Bool:=wordsL.any fun w=>decide (w=x)
theorem b_words:exBuild Tryz.prog 154 [(0,Value.string { data := #[112,114,111,103,114,97,109] }),(1,Value.string { data := #[114,101,115,111,117,114,99,101] }),(2,Value.string { data := #[115,101,109,97,112,104,111,114,101] }),(3,Value.string { data := #[115,104,97,114,101,100] }),(4,Value.string { data := #[118,97,114] }),(5,Value.string { data := #[112,114,111,99,101,100,117,114,101] }),(6,Value.string { data := #[99,108,97,105,109,115] }),(7,Value.string { data := #[98,101,103,105,110] }),(8,Value.string { data := #[101,110,100] }),(9,Value.string { data := #[105,102] }),(10,Value.string { data := #[116,104,101,110] }),(11,Value.string { data := #[101,108,115,101] }),(12,Value.string { data := #[102,105] }),(13,Value.string { data := #[119,104,105,108,101] }),(14,Value.string { data := #[100,111] }),(15,Value.string { data := #[111,100] }),(16,Value.string { data := #[99,111,98,101,103,105,110] }),(17,Value.string { data := #[99,111,101,110,100] }),(18,Value.string { data := #[114,101,103,105,111,110] }),(19,Value.string { data := #[119,104,101,110] }),(20,Value.string { data := #[114,101,113,117,101,115,116] }),(21,Value.string { data := #[114,101,108,101,97,115,101] }),(22,Value.string { data := #[119,114,105,116,101] }),(23,Value.string { data := #[114,101,97,100] }),(24,Value.string { data := #[115,107,105,112] }),(25,Value.string { data := #[116,114,117,101] }),(26,Value.string { data := #[102,97,108,115,101] }),(27,Value.string { data := #[97,110,100] }),(28,Value.string { data := #[111,114] }),(29,Value.string { data := #[110,111,116] }),(30,Value.string { data := #[80] }),(31,Value.string { data := #[86] })]=some (.agg ⟨wordsL.map fun x => .string x⟩):=by kernel_rfl
def numFrom:List UInt8→Int→Option Int
 | [],n=>some n
 | b :: bs,n=>if (9223372036854775807 - ((b.toNat:Int) - 48)) / 10<n then none else numFrom bs (10 * n+((b.toNat:Int) - 48))
def oneL:List UInt8:=[59,44,40,41,91,93,43,45,42,47,37,61,60,62,46]
def oneS (b:UInt8):Bool:=oneL.any fun c=>decide (c=b)
def twoS (x:ByteArray):Bool:=decide (x=⟨#[58,61]⟩) || (decide (x=⟨#[60,62]⟩) || (decide (x=⟨#[60,61]⟩) || (decide (x=⟨#[62,61]⟩) || decide (x=⟨#[47,47]⟩))))
def signP:List UInt8→Nat
 | []=>0
 | [a]=>if oneS a=true then 1 else 0
 | a :: b :: _=>if twoS ⟨#[a,b]⟩=true then 2 else if oneS a=true then 1 else 0
def NumI (l:List UInt8)(H:Heap)(m:Nat)(t:List Value)(H':Heap):Prop :=
 ∃ i:Nat,∃ n:Int,i+m=l.length∧rd t 5 = .int .i64 i∧rd t 4 = .int .i64 n∧0≤n∧n≤9223372036854775807∧H'=H∧numFrom l 0=numFrom (l.drop i) n
def byteC (b:UInt8):Value := .int .u8 (b.toNat:Int)
def BS (H:Heap)(sid off cap:Nat)(l:List UInt8):Prop:=∃ own tl es cs,H.get sid = .row own tl es cs∧off+l.length≤cs.length∧l.length≤cap∧(cs.drop off).take l.length=l.map byteC
section
variable {E:Hooks} (hE:Plain E)
include hE
theorem letter_run (b:UInt8)(H:Heap):(run Tryz.prog E).call 56 [byteC b] H=some (.val (.bool (letterB b)),H):=by
 have key:Gives ((run Tryz.prog E).call 56 [byteC b] H) fun o H'=>o = .val (.bool (letterB b))∧H'=H:=by
  rw[c_letter hE,callB,bodyOf]
  unfold letterB byteC
  by_cases h1:(97:Int)≤b.toNat
  · simp[Tryz.f56,h1,show 97≤b.toNat by omega]
    omega
  · simp[Tryz.f56,h1,show ¬97≤b.toNat by omega]
 obtain⟨o,H',e,rfl,rfl⟩:=key
 exact e
theorem digit_run (b:UInt8)(H:Heap):(run Tryz.prog E).call 57 [byteC b] H=some (.val (.bool (digitB b)),H):=by
 have key:Gives ((run Tryz.prog E).call 57 [byteC b] H) fun o H'=>o = .val (.bool (digitB b))∧H'=H:=by
  rw[c_digit hE,callB,bodyOf]
  unfold digitB byteC
  by_cases h1:(48:Int)≤b.toNat
  · simp[Tryz.f57,h1,show 48≤b.toNat by omega]
    omega
  · simp[Tryz.f57,h1,show ¬48≤b.toNat by omega]
 obtain⟨o,H',e,rfl,rfl⟩:=key
 exact e
theorem word_run (x:ByteArray)(H:Heap):∃ H',(run Tryz.prog E).call 58 [.string x] H=some (.val (.bool (isWord x)),H')∧Same (fun _=>False) H H':=by
 suffices key:Gives ((run Tryz.prog E).call 58 [.string x] H) fun o H'=>o = .val (.bool (isWord x))∧Same (fun _=>False) H H' by
  obtain⟨o,H',e,rfl,k⟩:=key
  exact⟨H',e,k⟩
 rw[c_Word hE,callB,bodyOf]
 have hlen:wordsL.length=32:=rfl
 simp[-build_eq,b_words,Tryz.f58,hlen]
 have fin:Same (fun _=>False) H (H.push (.row true 0 1 (wordsL.map fun x => .string x))):=Same.push _ _ _
 refine loop_wp (fun m t H'=>∃ i:Nat,i+m=32∧rd t 4 = .int .i64 i∧H'=H.push (.row true 0 1 (wordsL.map fun x => .string x))∧isWord x=(wordsL.drop i).any fun w=>decide (w=x)) 32 ?_ ?_
 · exact⟨0,rfl,by simp,rfl,rfl⟩
 rintro m t H' hk ⟨i,hi,g4,rfl,ho⟩
 have ht:t.length=15:=hk.1.trans (by simp[len_Bs])
 have hh:=hk.all [0,3] (by decide +kernel)
 simp at hh
 obtain⟨a0,a3⟩:=hh
 by_cases hm:m=0
 · subst hm
   obtain rfl:i=32:=by omega
   have h0:((wordsL.drop 32).any fun w=>decide (w=x))=false:=rfl
   rw[ho,h0]
   simp[ht,g4]
   exact fin
 · have hi13:i<wordsL.length:=by omega
   have hi:i<32:=by omega
   have hw:=wrap64 ((i:Int)+1) (by omega) (by omega)
   have hq:=List.getElem?_eq_getElem hi13
   rw[ho,List.drop_eq_getElem_cons hi13,List.any_cons]
   generalize wordsL[i]=q at hq ⊢
   by_cases c1:q=x
   · simp[ht,g4,show (i:Int)<32 by omega,a0,a3,hi,hq,c1]
     exact fin
   · simp[ht,g4,show (i:Int)<32 by omega,a0,a3,hi,hq,c1,hw]
     exact⟨m - 1,by omega,i+1,by omega,by simp,rfl⟩
omit hE in
theorem conv_u8 (x:Int)(H:Heap):exConvert Tryz.prog 5 3 (.int .u8 x) H=some (.int .i64 (IntKind.i64.wrap x),H):=rfl
omit hE in
theorem bin_quo10 (x y:Operand)(a:Int):exBin Tryz.prog .quo 3 x y (.int .i64 a) (.int .i64 10)=some (.int .i64 (IntKind.i64.wrap (a.tdiv 10))):=rfl
omit hE in
theorem conv_str {H:Heap}{sid off cap:Nat}{l:List UInt8}(h:BS H sid off cap l)(n:Nat)(hn:n=l.length):exConvert Tryz.prog 34 9 (.slice (some ⟨sid,off,none⟩) n cap) H=some (.string ⟨⟨l⟩⟩,H):=by
 subst hn
 obtain⟨own,tl,es,cs,h1,h2,h3,h4⟩:=h
 have hb:∀ l:List UInt8,byteList (l.map byteC)=some l:=by
  intro l
  induction l with
  | nil=>rfl
  | cons b bs ih =>
   simp only[List.map_cons,byteC,byteList]at ih ⊢
   rw[ih]
   simp
 have e:exConvert Tryz.prog 34 9 (.slice (some ⟨sid,off,none⟩) l.length cap) H=(match cellsOf H 1 l.length (.slice (some ⟨sid,off,none⟩) l.length cap)with | some cs=>(byteList cs).map fun l=>(.string ⟨⟨l⟩⟩,H) | none=>none):=rfl
 rw[e]
 simp[h1,h2,h4,hb]
omit hE in
theorem BS.cut {H:Heap}{sid off cap:Nat}{l:List UInt8}(h:BS H sid off cap l)(a b:Nat)(hab:a≤b)(hb:b≤l.length)(ha:a<cap) :
  cutA sid off l.length cap 1 (some (.int .i64 a)) (some (.int .i64 b)) none H=some (.slice (some ⟨sid,off+a,none⟩) (b - a) (cap - a),H)∧BS H sid (off+a) (cap - a) ((l.drop a).take (b - a)):=by
 obtain⟨own,tl,es,cs,h1,h2,h3,h4⟩:=h
 refine⟨?_,own,tl,es,cs,h1,?_,?_,?_⟩
 · simp only[cutA,boundOf,h1]
   rw[if_pos (by omega)]
   cases tl with
   | zero=>simp[show ¬(cap:Int)=a by omega]
   | succ tl=>simp only[];rw[if_neg (by omega)];simp
 · simp;omega
 · simp;omega
 · have:=congrArg (fun x=>(x.drop a).take (b - a)) h4
   simp only[List.drop_take,List.take_take,List.drop_drop]at this
   simp only[List.length_take,List.length_drop,List.map_take,List.map_drop]
   rw[show min (b - a) (l.length - a)=b - a by omega]at this ⊢
   rw[← this]
omit hE in
theorem BS.cell {H:Heap}{sid off cap:Nat}{l:List UInt8}(h:BS H sid off cap l){i:Nat}(hi:i<l.length):∃ own tl es cs,H.get sid = .row own tl es cs∧cs[off+i]? = some (byteC l[i]):=by
 obtain⟨own,tl,es,cs,h1,h2,h3,h4⟩:=h
 refine⟨own,tl,es,cs,h1,?_⟩
 have:((cs.drop off).take l.length)[i]? = (l.map byteC)[i]? := by rw[h4]
 rw[List.getElem?_take_of_lt hi,List.getElem?_drop]at this
 rw[this]
 simp[hi]
theorem number_run {H:Heap}{sid off cap:Nat}{l:List UInt8}(h:BS H sid off cap l)(hd:∀ b∈l,digitB b=true)(hlen:l.length≤100000) :
  (run Tryz.prog E).call 59 [.slice (some ⟨sid,off,none⟩) l.length cap] H=some (.val (match numFrom l 0 with | some n => .tuple #[.int .i64 n,.bool true] | none => .tuple #[.int .i64 0,.bool false]),H):=by
 have key:Gives ((run Tryz.prog E).call 59 [.slice (some ⟨sid,off,none⟩) l.length cap] H) fun o H'=>o = .val (match numFrom l 0 with | some n => .tuple #[.int .i64 n,.bool true] | none => .tuple #[.int .i64 0,.bool false])∧H'=H:=by
  rw[c_number hE,callB,bodyOf]
  simp[Tryz.f59]
  refine loop_wp (NumI l H) l.length ?_ ?_
  · exact⟨0,0,by omega,by simp,by simp,by omega,by omega,rfl,rfl⟩
  rintro m t H' hk ⟨i,n,hi,g5,g4,hn0,hn1,rfl,ho⟩
  have ht:t.length=29:=hk.1.trans (by simp[len_Bs])
  have hh:=hk.all [0] (by decide +kernel)
  simp at hh
  by_cases hm:m=0
  · subst hm
    obtain rfl:i=l.length:=by omega
    rw[ho,List.drop_length]
    simp[ht,g5,g4,hh,numFrom]
  · have hil:i<l.length:=by omega
    obtain⟨own,tl,es,cs,h1,h2⟩:=h.cell hil
    have hb:=hd l[i] (List.getElem_mem hil)
    unfold digitB at hb
    simp only[decide_eq_true_eq]at hb
    have ho2:=ho
    rw[List.drop_eq_getElem_cons hil,numFrom]at ho2
    rw[ho2]
    generalize l[i]=b at hb h2 ho2 ⊢
    simp only[byteC]at h2
    have hw:=wrap64 ((i:Int)+1) (by omega) (by omega)
    have hw8:IntKind.u8.wrap ((b.toNat:Int) - 48)=(b.toNat:Int) - 48:=by
     unfold IntKind.wrap
     simp[IntKind.bits,IntKind.signed]
     omega
    have hwd:=wrap64 ((b.toNat:Int) - 48) (by omega) (by omega)
    have hwm:=wrap64 (9223372036854775807 - ((b.toNat:Int) - 48)) (by omega) (by omega)
    have hq:(9223372036854775807 - ((b.toNat:Int) - 48)).tdiv 10=(9223372036854775807 - ((b.toNat:Int) - 48)) / 10:=Int.tdiv_eq_ediv_of_nonneg (by omega)
    have hwq:=wrap64 ((9223372036854775807 - ((b.toNat:Int) - 48)) / 10) (by omega) (by omega)
    by_cases hbig:(9223372036854775807 - ((b.toNat:Int) - 48)) / 10<n
    · rw[if_pos hbig]
      simp[ht,g5,g4,hh,show (i:Int)<l.length by omega,hil,h1,h2,hw8,conv_u8,hwd,hwm,bin_quo10,hq,hwq,hbig]
    · rw[if_neg hbig]
      have hw10:=wrap64 (10 * n) (by omega) (by omega)
      have hwn:=wrap64 (10 * n+((b.toNat:Int) - 48)) (by omega) (by omega)
      simp[ht,g5,g4,hh,show (i:Int)<l.length by omega,hil,h1,h2,hw8,conv_u8,hwd,hwm,bin_quo10,hq,hwq,hbig,hw10,hwn,hw]
      refine⟨m - 1,by omega,i+1,10 * n+((b.toNat:Int) - 48),by omega,by simp[ht],by simp[ht],by omega,by omega,rfl,?_⟩
      rw[ho2,if_neg hbig]
 obtain⟨o,H',e,rfl,rfl⟩:=key
 exact e
omit hE in
theorem BS.head {H:Heap}{sid off cap:Nat}{l:List UInt8}(h:BS H sid off cap l)(b:Nat)(hb:b≤l.length)(h0:0<l.length) :
  cutA sid off l.length cap 1 none (some (.int .i64 b)) none H=some (.slice (some ⟨sid,off,none⟩) b cap,H)∧BS H sid off cap (l.take b):=by
 have hc:=h
 obtain⟨own,tl,es,cs,h1,h2,h3,h4⟩:=h
 refine⟨?_,own,tl,es,cs,h1,?_,?_,?_⟩
 · simp only[cutA,boundOf,h1]
   rw[if_pos (by omega)]
   cases tl with
   | zero=>simp
   | succ tl=>simp only[];rw[if_neg (by omega)];simp
 · simp;omega
 · simp;omega
 · have:=congrArg (fun x=>x.take b) h4
   simp only[List.take_take]at this
   simp only[List.length_take,List.map_take]
   exact this
omit hE in
theorem BS.tail {H:Heap}{sid off cap:Nat}{l:List UInt8}(h:BS H sid off cap l)(a:Nat)(ha:a<l.length) :
  cutA sid off l.length cap 1 (some (.int .i64 a)) none none H=some (.slice (some ⟨sid,off+a,none⟩) (l.length - a) (cap - a),H)∧BS H sid (off+a) (cap - a) (l.drop a):=by
 have hcap:l.length≤cap:=by obtain⟨_,_,_,_,_,_,h3,_⟩:=h;exact h3
 obtain⟨h1,h2⟩:=h.cut a l.length (by omega) (Nat.le_refl _) (by omega)
 refine⟨?_,?_⟩
 · rw[← h1];simp only[cutA,boundOf]
 · rw[List.take_of_length_le (by simp)]at h2;exact h2
omit hE in
theorem idx_one:∀ (i:Nat)(h:i<oneL.length),ifGround (pureRun Tryz.prog (Instr.index 9 (.string ⟨#[59,44,40,41,91,93,43,45,42,47,37,61,60,62,46]⟩) (.int .i64 i)))=some (byteC oneL[i])
 | 0,_=>rfl
 | 1,_=>rfl
 | 2,_=>rfl
 | 3,_=>rfl
 | 4,_=>rfl
 | 5,_=>rfl
 | 6,_=>rfl
 | 7,_=>rfl
 | 8,_=>rfl
 | 9,_=>rfl
 | 10,_=>rfl
 | 11,_=>rfl
 | 12,_=>rfl
 | 13,_=>rfl
 | 14,_=>rfl
 | n+15,h=>absurd h (by simp[oneL])
omit hE in
theorem q_sign0:quiet Tryz.prog (drawN Tryz.f60 0)=true:=by decide +kernel
theorem sign_run {H:Heap}{sid off cap:Nat}{l:List UInt8}(h:BS H sid off cap l)(h0:0<l.length)(hlen:l.length≤100000) :
  (run Tryz.prog E).call 60 [.slice (some ⟨sid,off,none⟩) l.length cap] H=some (.val (.int .i64 (signP l)),H):=by
 have key:Gives ((run Tryz.prog E).call 60 [.slice (some ⟨sid,off,none⟩) l.length cap] H) fun o H'=>o = .val (.int .i64 (signP l))∧H'=H:=by
  obtain⟨own,tl,es,cs,h1,h2⟩:=h.cell h0
  rw[c_sign hE,callB,bodyOf]
  cases l with
  | nil=>simp at h0
  | cons a l =>
  simp only[List.getElem_cons_zero,byteC]at h2
  have hol:oneL.length=15:=rfl
  have h2':cs[off]? = some (.int .u8 a.toNat):=h2
  cases l with
  | nil =>
   simp[Tryz.f60,signP]
   refine loop_wp (fun m t H'=>∃ i:Nat,i+m=15∧rd t 5 = .int .i64 i∧H'=H∧oneS a=(oneL.drop i).any fun c=>decide (c=a)) 15 ?_ ?_
   · exact⟨0,rfl,by simp,rfl,rfl⟩
   rintro m t H' hk ⟨i,hi,g5,rfl,ho⟩
   have ht:t.length=43:=hk.1.trans (by simp[len_Bs])
   have hh:=hk.all [0,4] (by decide +kernel)
   simp at hh
   obtain⟨a0,a4⟩:=hh
   by_cases hm:m=0
   · subst hm
     obtain rfl:i=15:=by omega
     have h0:((oneL.drop 15).any fun c=>decide (c=a))=false:=rfl
     rw[ho,h0]
     simp[ht,g5,a4,ByteArray.size]
   · have hi13:i<oneL.length:=by omega
     have hi15:i<15:=by omega
     have hw:=wrap64 ((i:Int)+1) (by omega) (by omega)
     have hq:=idx_one i hi13
     have ho2:=ho
     rw[List.drop_eq_getElem_cons hi13,List.any_cons]at ho2
     generalize oneL[i]=q at hq ho2
     simp only[byteC]at hq
     by_cases c1:q=a
     · rw[ho2]
       simp[ht,g5,a4,ByteArray.size,show (i:Int)<15 by omega]
       refine region_quiet (by exact q_sign0) ?_
       simp[op_index,idxA_str,ht,g5,a4,a0,hq,h1,h2',c1]
     · have c2:¬(q.toNat:Int)=a.toNat:=fun e=>c1 (UInt8.toNat_inj.mp (by omega))
       have c3:¬q.toNat=a.toNat:=fun e=>c1 (UInt8.toNat_inj.mp e)
       simp[ht,g5,a4,ByteArray.size,show (i:Int)<15 by omega]
       refine region_quiet (by exact q_sign0) ?_
       simp[op_index,idxA_str,ht,g5,a4,a0,hq,h1,h2',c2,c3,hw]
       refine⟨m - 1,by omega,i+1,by omega,by simp[ht],?_⟩
       rw[ho2]
       simp[c1]
  | cons b l =>
   obtain⟨hc1,hc2⟩:=h.head 2 (by simp) (by simp)
   simp only[List.take_succ_cons,List.take_zero,List.length_cons]at hc1 hc2
   have hcs:=conv_str hc2 2 rfl
   rw[show ((2:Nat):Int)=2 from rfl]at hc1
   have hl1:(1:Int)<l.length+1+1:=by omega
   rw[signP]
   generalize (⟨#[a,b]⟩:ByteArray)=x at hcs ⊢
   by_cases c2:twoS x=true
   · rw[if_pos c2]
     unfold twoS at c2
     simp only[Bool.or_eq_true,decide_eq_true_eq]at c2
     rcases c2 with rfl | rfl | rfl | rfl | rfl
     all_goals simp[Tryz.f60,hc1,hcs,hl1]
   · rw[if_neg c2]
     unfold twoS at c2
     simp only[Bool.or_eq_true,decide_eq_true_eq,not_or]at c2
     obtain⟨d1,d2,d3,d4,d5⟩:=c2
     have hl2:(0:Int)<l.length+1+1:=by omega
     have nb:∀ y:ByteArray,¬x=y→(x.toList == y.data.toList)=false:=fun y hy=>by
      have:=toList_beq x y
      rw[decide_eq_false hy,ByteArray.toList_eq y]at this
      exact this
     have d1:=nb _ d1
     have d2:=nb _ d2
     have d3:=nb _ d3
     have d4:=nb _ d4
     have d5:=nb _ d5
     simp only[]at d1 d2 d3 d4 d5
     simp[Tryz.f60,hc1,hcs,hl1,d1,d2,d3,d4,d5]
     refine loop_wp (fun m t H'=>∃ i:Nat,i+m=15∧rd t 5 = .int .i64 i∧H'=H∧oneS a=(oneL.drop i).any fun c=>decide (c=a)) 15 ?_ ?_
     · exact⟨0,rfl,by simp,rfl,rfl⟩
     rintro m t H' hk ⟨i,hi,g5,rfl,ho⟩
     have ht:t.length=43:=hk.1.trans (by simp[len_Bs])
     have hh:=hk.all [0,4] (by decide +kernel)
     simp at hh
     obtain⟨a0,a4⟩:=hh
     by_cases hm:m=0
     · subst hm
       obtain rfl:i=15:=by omega
       have h0:((oneL.drop 15).any fun c=>decide (c=a))=false:=rfl
       rw[ho,h0]
       simp[ht,g5,a4,ByteArray.size]
     · have hi13:i<oneL.length:=by omega
       have hi15:i<15:=by omega
       have hw:=wrap64 ((i:Int)+1) (by omega) (by omega)
       have hq:=idx_one i hi13
       have ho2:=ho
       rw[List.drop_eq_getElem_cons hi13,List.any_cons]at ho2
       generalize oneL[i]=q at hq ho2
       simp only[byteC]at hq
       by_cases c1:q=a
       · rw[ho2]
         simp[ht,g5,a4,ByteArray.size,show (i:Int)<15 by omega]
         refine region_quiet (by exact q_sign0) ?_
         simp[op_index,idxA_str,hl2,ht,g5,a4,a0,hq,h1,h2',c1]
       · have c2:¬(q.toNat:Int)=a.toNat:=fun e=>c1 (UInt8.toNat_inj.mp (by omega))
         have c3:¬q.toNat=a.toNat:=fun e=>c1 (UInt8.toNat_inj.mp e)
         simp[ht,g5,a4,ByteArray.size,show (i:Int)<15 by omega]
         refine region_quiet (by exact q_sign0) ?_
         simp[op_index,idxA_str,hl2,ht,g5,a4,a0,hq,h1,h2',c2,c3,hw]
         refine⟨m - 1,by omega,i+1,by omega,by simp[ht],?_⟩
         rw[ho2]
         simp[c1]
 obtain⟨o,H',e,rfl,rfl⟩:=key
 exact e
end
def spanTo (p:UInt8→Bool)(src:List UInt8)(to:Nat):Nat:=to+((src.drop to).takeWhile p).length
theorem spanTo_step {p:UInt8→Bool}{src:List UInt8}{to:Nat}(h:to<src.length)(hp:p src[to]=true):spanTo p src to=spanTo p src (to+1):=by
 unfold spanTo
 rw[List.drop_eq_getElem_cons h,List.takeWhile_cons,if_pos hp,List.length_cons];omega
theorem spanTo_stop {p:UInt8→Bool}{src:List UInt8}{to:Nat}(h:to<src.length)(hp:p src[to]=false):spanTo p src to=to:=by
 unfold spanTo
 rw[List.drop_eq_getElem_cons h,List.takeWhile_cons,if_neg (by rw[hp];simp)];rfl
theorem spanTo_end (p:UInt8→Bool)(src:List UInt8):spanTo p src src.length=src.length:=by
 unfold spanTo
 rw[List.drop_length];rfl
theorem spanTo_le {p:UInt8→Bool}{src:List UInt8}{to:Nat}(h:to≤src.length):to≤spanTo p src to∧spanTo p src to≤src.length:=by
 unfold spanTo
 have:=(List.takeWhile_prefix p (l:=src.drop to)).length_le
 simp at this
 omega
def nameB (b:UInt8):Bool:=letterB b || digitB b
def cutB (src:List UInt8)(a b:Nat):ByteArray:=⟨⟨(src.drop a).take (b - a)⟩⟩
inductive LS where
 | more (to:Nat) (t:Option Tk)
 | bad (c a:Int)
def lexStep (src:List UInt8)(a:Nat)(c:UInt8):LS :=
 if c.toNat=32∨c.toNat=9∨c.toNat=10∨c.toNat=13 then .more (a+1) none
 else if c.toNat=123 then
  if spanTo (fun b => !decide (b.toNat=125)) src (a+1)=src.length then .bad 11 a else .more (spanTo (fun b => !decide (b.toNat=125)) src (a+1)+1) none
 else if c.toNat=80∨c.toNat=86 then .more (a+1) (some ⟨3,a,0,cutB src a (a+1)⟩)
 else if letterB c=true then
  if isWord (cutB src a (spanTo nameB src (a+1)))=true then .more (spanTo nameB src (a+1)) (some ⟨3,a,0,cutB src a (spanTo nameB src (a+1))⟩)
  else if 12<spanTo nameB src (a+1) - a then .bad 12 a
  else .more (spanTo nameB src (a+1)) (some ⟨1,a,0,cutB src a (spanTo nameB src (a+1))⟩)
 else if digitB c=true then
  match numFrom ((src.drop a).take (spanTo digitB src (a+1) - a)) 0 with
  | none => .bad 13 a
  | some n => .more (spanTo digitB src (a+1)) (some ⟨2,a,n,ByteArray.empty⟩)
 else if signP (src.drop a)=0 then .bad 11 a
 else .more (a+signP (src.drop a)) (some ⟨4,a,0,cutB src a (a+signP (src.drop a))⟩)
def lexFrom (src:List UInt8):Nat→Nat→List Tk→Option (List Tk ⊕ (Int × Int))
 | 0,_,_=>none
 | n + 1, a, out =>
  if h:a<src.length then
   match lexStep src a src[a]with
   | .bad c p=>some (.inr (c,p))
   | .more to none=>lexFrom src n to out
   | .more to (some t)=>lexFrom src n to (out++[t])
  else some (.inl (out++[⟨5,src.length,0,ByteArray.empty⟩]))
def RetL (H:Heap)(res:List Tk ⊕ (Int × Int))(o:Out)(H':Heap):Prop :=
 Same (fun _=>False) H H'∧match res with
 | .inr (c,p)=>o = .val (.tuple #[.slice none 0 0,.agg #[.int .i64 c,.int .i64 p]])
 | .inl l=>∃ id,H.n≤id∧o = .val (.tuple #[.slice (some ⟨id,0,none⟩) l.length l.length,.agg #[.int .i64 0,.int .i64 0]])∧∃ tl,tl≤1∧H'.get id = .row true tl 4 (flatT l)
theorem tf_tok:TF Tryz.prog 86 4:=⟨_,_,_,by simp,by simp,by simp;rfl,by omega,by simp;rfl,rfl,by omega,rfl⟩
theorem span_all {p:UInt8→Bool}{src:List UInt8}{a:Nat}(h:a<src.length)(hp:p src[a]=true):∀ x∈(src.drop a).take (spanTo p src (a+1) - a),p x=true:=by
 have e:spanTo p src (a+1) - a=((src.drop a).takeWhile p).length:=by
  unfold spanTo
  rw[List.drop_eq_getElem_cons h,List.takeWhile_cons,if_pos hp,List.length_cons];omega
 rw[e]
 intro x hx
 have hpre:=List.takeWhile_prefix p (l:=src.drop a)
 rw[← List.prefix_iff_eq_take.1 hpre]at hx
 exact List.all_eq_true.1 (List.all_takeWhile (p:=p) (l:=src.drop a)) x hx
theorem signP_le:∀ l:List UInt8,signP l≤l.length
 | []=>by simp[signP]
 | [a]=>by simp only[signP];split<;>simp
 | a :: b :: l=>by simp only[signP];split;(simp);split<;>simp
theorem flatT_append:∀ (l:List Tk)(t:Tk),flatT (l++[t])=flatT l++t.cells
 | [],t=>by simp[flatT]
 | x :: l,t=>by simp[flatT,flatT_append l t]
theorem Same.any {X:Nat→Prop}{H H':Heap}(k:Same X H H')(A:Heap)(h:∀ i,X i→A.n≤i)(k0:Same (fun _=>False) A H):Same (fun _=>False) A H':=k0.then k fun i hi => .inr (h i hi)
theorem BS.same {X:Nat→Prop}{H H':Heap}{sid off cap:Nat}{l:List UInt8}(h:BS H sid off cap l)(k:Same X H H')(hx:¬X sid):BS H' sid off cap l:=by
 obtain⟨own,tl,es,cs,h1,h2⟩:=h
 exact⟨own,tl,es,cs,k.at h1 (by simp) hx,h2⟩
def LexI (src:List UInt8)(H:Heap)(res:List Tk ⊕ (Int × Int))(n m:Nat)(t:List Value)(H':Heap):Prop :=
 m≤n∧∃ (a:Nat) (out:List Tk) (id tl:Nat),lexFrom src m a out=some res∧rd t 5 = .int .i64 a∧rd t 4 = .slice (some ⟨id,0,none⟩) out.length out.length∧a≤src.length∧out.length≤a ∧
  H.n<id∧tl≤1∧H'.get id = .row true tl 4 (flatT out)∧H'.get H.n = .row true 0 1 [.int .i64 0,.int .i64 0]∧Same (fun _=>False) H H'
def SpanI (p:UInt8→Bool)(src:List UInt8)(H2:Heap)(e:Nat)(m:Nat)(t:List Value)(H':Heap):Prop :=
 ∃ to:Nat,to+m=src.length∧rd t 7 = .int .i64 to∧H'=H2∧spanTo p src to=e
section
variable {E:Hooks} (hE:Plain E)
include hE
theorem all_walk {H:Heap}{sid off cap:Nat}{src:List UInt8}(hb:BS H sid off cap src)(hsm:src.length≤4096){n:Nat}{res:List Tk ⊕ (Int × Int)}(hres:lexFrom src n 0 []=some res) :
  Gives ((run Tryz.prog E).call 25 [.slice (some ⟨sid,off,none⟩) src.length cap] H) (RetL H res):=by
 have hsid:sid<H.n:=by obtain⟨_,_,_,_,h,_⟩:=hb;exact Heap.lt_of_get h (by simp)
 have hcap:src.length≤cap:=by obtain⟨_,_,_,_,_,_,h,_⟩:=hb;exact h
 rw[c_All hE,callB,bodyOf]
 simp[Tryz.f25,show ¬(4096:Int)<src.length by omega]
 refine loop_wp (LexI src H res n) n ?_ ?_
 · exact⟨Nat.le_refl n,0,[],H.n+1,0,hres,by simp,by simp,by omega,by simp,by omega,by omega,by simp[flatT],by simp,(Same.push _ _ _).then_push _⟩
 rintro m t H' hk ⟨hmn,a,out,id,tl,hl,g5,g4,ha,hol,hid,htl,gO,gF,kS⟩
 have ht:t.length=193:=hk.1.trans (by simp[len_Bs])
 have hh:=hk.all [0,3] (by decide +kernel)
 simp at hh
 obtain⟨t0,t3⟩:=hh
 have hH:=Heap.lt_of_get gO (by simp)
 have hB:=hb.same kS (fun h=>h)
 cases m with
 | zero=>cases hl
 | succ m =>
 rw[lexFrom]at hl
 have hfl:=flatT_length out
 have grow:∀ tk:Tk,∃ H2,exAppend Tryz.prog [86,86] (.slice (some ⟨id,0,none⟩) out.length out.length) (.slice (some ⟨H'.n,0,none⟩) 1 1) (H'.push (.row true 0 4 tk.cells))=some (.slice (some ⟨H'.n+1,0,none⟩) (out.length+1) (out.length+1),H2) ∧
   H2.get (H'.n+1) = .row true 1 4 (flatT (out++[tk]))∧H2.get H.n = .row true 0 1 [.int .i64 0,.int .i64 0]∧Same (fun _=>False) H H2∧H'.n+1<H2.n:=by
  intro tk
  obtain⟨H2,e1,e2,e3,e4⟩:=app_one tf_tok (H:=H'.push (.row true 0 4 tk.cells)) (id:=id) (tl:=tl) (n:=out.length) (xid:=H'.n) (cs:=flatT out) (c:=tk.cells) (xt:=0) (xe:=4) (xo:=true) (xc:=1) (by rw[Heap.get_push,if_neg (by omega)];exact gO) (by omega) htl rfl (Heap.get_push_self _ _) (by omega)
  refine⟨H2,e1,by rw[flatT_append];exact e2,e4.at (by rw[Heap.get_push,if_neg (by omega)];exact gF) (by simp) (by omega),(kS.then_push _).then e4 (fun i hi => .inr (by omega)),?_⟩
  rw[e3];simp
 by_cases hlt:a<src.length
 · rw[dif_pos hlt]at hl
   obtain⟨own,tl2,es,cs,hg1,hg2⟩:=hB.cell hlt
   have hw1:=wrap64 ((a:Int)+1) (by omega) (by omega)
   unfold lexStep at hl
   generalize hbb:src[a]=b at hl hg2
   have hb8:b.toNat<256:=b.toNat_lt
   simp only[byteC]at hg2
   by_cases c1:b.toNat=32∨b.toNat=9∨b.toNat=10∨b.toNat=13
   · rw[if_pos c1]at hl
     have d:b.toNat=32∨b.toNat=9∨b.toNat=10∨b.toNat=13:=c1
     rcases d with d | d | d | d
     all_goals
      simp[ht,g5,g4,t0,t3,hlt,hg1,hg2,hw1,d]
      exact⟨m,by omega,by omega,a+1,out,id,tl,hl,by simp[ht],by simp[ht,g4],by omega,by omega,hid,htl,gO,gF,kS⟩
   rw[if_neg c1]at hl
   simp only[not_or]at c1
   obtain⟨d1,d2,d3,d4⟩:=c1
   have D1:¬(b.toNat:Int)=32:=by omega
   have D2:¬(b.toNat:Int)=9:=by omega
   have D3:¬(b.toNat:Int)=10:=by omega
   have D4:¬(b.toNat:Int)=13:=by omega
   by_cases c2:b.toNat=123
   · rw[if_pos c2]at hl
     obtain⟨hs1,hs2⟩:=spanTo_le (p:=fun b => !decide (b.toNat=125)) (src:=src) (to:=a+1) (by omega)
     generalize hsp:spanTo (fun b => !decide (b.toNat=125)) src (a+1)=sp at *
     simp[ht,g5,g4,t0,t3,hlt,hg1,hg2,hw1,c2]
     refine loop_wp (SpanI (fun b => !decide (b.toNat=125)) src H' sp) (src.length - (a+1)) ⟨a+1,by omega,by simp[ht],rfl,hsp⟩ ?_
     rintro m2 t2 H2 hk2 ⟨to,hto,g7,rfl,hsp2⟩
     have ht2:t2.length=193:=hk2.1.trans (by simp[ht])
     have hh:=hk2.all [0,3,4,5] (by decide +kernel)
     simp[ht]at hh
     obtain⟨u0,u3,u4,u5⟩:=hh
     simp only[t0,t3,g4,g5]at u0 u3 u4 u5
     by_cases hte:to<src.length
     · obtain⟨own',tl2',es',cs',hg1',hg2'⟩:=hB.cell hte
       have hw7:=wrap64 ((to:Int)+1) (by omega) (by omega)
       by_cases hp:(src[to]).toNat=125
       · have:=spanTo_stop (p:=fun b => !decide (b.toNat=125)) hte (by simp[hp])
         have hes:sp=to:=by rw[← hsp2,this]
         subst hes
         rw[if_neg (by omega)]at hl
         simp only[byteC,hp]at hg2'
         simp[ht2,g7,u0,u3,u4,u5,hte,hg1',hg2',show ¬(sp:Int)=src.length by omega,hw7]
         exact⟨m,by omega,by omega,sp+1,out,id,tl,hl,by simp[ht2],by simp[ht2,u4],by omega,by omega,hid,htl,gO,gF,kS⟩
       · have:=spanTo_step (p:=fun b => !decide (b.toNat=125)) hte (by simp[hp])
         simp only[byteC]at hg2'
         simp[ht2,g7,u0,u3,u4,u5,hte,hg1',hg2',hw7,show ¬((src[to]).toNat:Int)=125 by omega]
         exact⟨m2 - 1,by omega,to+1,by omega,by simp[ht2],rfl,by rw[← this];exact hsp2⟩
     · obtain rfl:to=src.length:=by omega
       rw[spanTo_end]at hsp2
       subst hsp2
       rw[if_pos rfl]at hl
       cases hl
       have hn2:H.n<H2.n:=by omega
       simp[ht2,g7,u0,u3,u4,u5,gF,hn2]
       exact⟨kS.then_set hn2 (.inr (Nat.le_refl _)) _,by simp⟩
   rw[if_neg c2]at hl
   have D5:¬(b.toNat:Int)=123:=by omega
   by_cases c3:b.toNat=80∨b.toNat=86
   · rw[if_pos c3]at hl
     simp only[]at hl
     obtain⟨hc1,hc2⟩:=hB.cut a (a+1) (by omega) (by omega) (by omega)
     have hcs:=conv_str hc2 1 (by simp;omega)
     rw[show a+1 - a=1 by omega]at hc1 hcs
     rw[show ((a+1:Nat):Int)=(a:Int)+1 by omega]at hc1
     obtain⟨H2,e1,e2,e3,e4,e5⟩:=grow ⟨3,a,0,cutB src a (a+1)⟩
     simp only[Tk.cells,cutB]at e1
     rw[show a+1 - a=1 by omega]at e1
     rcases c3 with d | d
     all_goals
      simp[ht,g5,g4,t0,t3,hlt,hg1,hg2,hw1,d,hc1,hcs,e1]
      exact⟨m,by omega,by omega,a+1,_,H'.n+1,1,hl,by simp[ht],by simp[ht],by omega,by simp;omega,by omega,by omega,e2,e3,e4⟩
   rw[if_neg c3]at hl
   simp only[not_or]at c3
   obtain⟨d5,d6⟩:=c3
   have D6:¬(b.toNat:Int)=80:=by omega
   have D7:¬(b.toNat:Int)=86:=by omega
   have eL:=letter_run hE b H'
   simp only[byteC]at eL
   by_cases c4:letterB b=true
   · rw[if_pos c4]at hl
     obtain⟨hs1,hs2⟩:=spanTo_le (p:=nameB) (src:=src) (to:=a+1) (by omega)
     generalize hsp:spanTo nameB src (a+1)=sp at *
     simp[ht,g5,g4,t0,t3,hlt,hg1,hg2,hw1,D1,D2,D3,D4,D5,D6,D7,eL,c4]
     refine loop_wp (SpanI nameB src H' sp) (src.length - (a+1)) ⟨a+1,by omega,by simp[ht],rfl,hsp⟩ ?_
     rintro m2 t2 H2 hk2 ⟨to,hto,g7,rfl,hsp2⟩
     have ht2:t2.length=193:=hk2.1.trans (by simp[ht])
     have hh:=hk2.all [0,3,4,5] (by decide +kernel)
     simp[ht]at hh
     obtain⟨u0,u3,u4,u5⟩:=hh
     simp only[t0,t3,g4,g5]at u0 u3 u4 u5
     have step:(hte:to<src.length)→nameB src[to]=true→spanTo nameB src to=spanTo nameB src (to+1):=fun h1 h2=>spanTo_step h1 h2
     have stop:(hte:to<src.length)→nameB src[to]=false→sp=to:=fun h1 h2=>by rw[← hsp2,spanTo_stop h1 h2]
     obtain⟨hc1,hc2⟩:=hB.cut a sp (by omega) hs2 (by omega)
     have hcs:=conv_str hc2 (sp - a) (by simp;omega)
     obtain⟨HW,eW,kW⟩:=word_run hE (cutB src a sp) H2
     have kSW:=kS.trans kW
     have gOW:=kW.at gO (by simp) (fun h=>h)
     have gFW:=kW.at gF (by simp) (fun h=>h)
     have growW:∀ tk:Tk,∃ H2,exAppend Tryz.prog [86,86] (.slice (some ⟨id,0,none⟩) out.length out.length) (.slice (some ⟨HW.n,0,none⟩) 1 1) (HW.push (.row true 0 4 tk.cells))=some (.slice (some ⟨HW.n+1,0,none⟩) (out.length+1) (out.length+1),H2) ∧
       H2.get (HW.n+1) = .row true 1 4 (flatT (out++[tk]))∧H2.get H.n = .row true 0 1 [.int .i64 0,.int .i64 0]∧Same (fun _=>False) H H2∧HW.n+1<H2.n:=by
      intro tk
      have hHW:=Heap.lt_of_get gOW (by simp)
      obtain⟨H2,e1,e2,e3,e4⟩:=app_one tf_tok (H:=HW.push (.row true 0 4 tk.cells)) (id:=id) (tl:=tl) (n:=out.length) (xid:=HW.n) (cs:=flatT out) (c:=tk.cells) (xt:=0) (xe:=4) (xo:=true) (xc:=1) (by rw[Heap.get_push,if_neg (by omega)];exact gOW) (by omega) htl rfl (Heap.get_push_self _ _) (by omega)
      refine⟨H2,e1,by rw[flatT_append];exact e2,e4.at (by rw[Heap.get_push,if_neg (by omega)];exact gFW) (by simp) (by omega),(kSW.then_push _).then e4 (fun i hi => .inr (by omega)),?_⟩
      rw[e3];simp
     have hHW:=Heap.lt_of_get gOW (by simp)
     have hn2:H.n<HW.n:=by omega
     simp only[cutB]at eW
     have hsz:(⟨⟨(src.drop a).take (sp - a)⟩⟩:ByteArray).size=sp - a:=by
      show ((src.drop a).take (sp - a)).length=_
      simp;omega
     have hend:(sp=to∧(to=src.length∨∃ h:to<src.length,nameB src[to]=false))∨(∃ h:to<src.length,nameB src[to]=true):=by
      by_cases hte:to<src.length
      · cases hn:nameB src[to]with
        | true=>exact .inr ⟨hte,hn⟩
        | false=>exact .inl ⟨stop hte hn,.inr ⟨hte,hn⟩⟩
      · have:to=src.length:=by omega
        refine .inl ⟨?_,.inl this⟩
        rw[← hsp2,this,spanTo_end]
     rcases hend with⟨rfl,hend⟩ | ⟨hte,hn⟩
     · rcases hend with hend | ⟨hte,hn⟩
       · have hns:¬(sp:Int)<src.length:=by omega
         by_cases cw:isWord (cutB src a sp)=true
         · rw[if_pos cw]at hl
           simp only[]at hl
           simp only[cutB]at cw
           obtain⟨H3,e1,e2,e3,e4,e5⟩:=growW ⟨3,a,0,cutB src a sp⟩
           simp only[Tk.cells,cutB]at e1
           simp[ht2,g7,u0,u3,u4,u5,hns,hc1,hcs,eW,cw,e1]
           exact⟨m,by omega,by omega,sp,_,HW.n+1,1,hl,by simp[ht2],by simp[ht2],by omega,by simp;omega,by omega,by omega,e2,e3,e4⟩
         · rw[if_neg cw]at hl
           have cw':isWord (cutB src a sp)=false:=by simpa using cw
           simp only[cutB]at cw'
           by_cases c12:12<sp - a
           · rw[if_pos c12]at hl
             cases hl
             simp[ht2,g7,u0,u3,u4,u5,hns,hc1,hcs,eW,cw',hsz,show (12:Int)<((sp - a:Nat):Int) by omega,gFW,hn2]
             exact⟨kSW.then_set hn2 (.inr (Nat.le_refl _)) _,by simp⟩
           · rw[if_neg c12]at hl
             simp only[]at hl
             obtain⟨H3,e1,e2,e3,e4,e5⟩:=growW ⟨1,a,0,cutB src a sp⟩
             simp only[Tk.cells,cutB]at e1
             simp[ht2,g7,u0,u3,u4,u5,hns,hc1,hcs,eW,cw',hsz,show ¬(12:Int)<((sp - a:Nat):Int) by omega,e1]
             exact⟨m,by omega,by omega,sp,_,HW.n+1,1,hl,by simp[ht2],by simp[ht2],by omega,by simp;omega,by omega,by omega,e2,e3,e4⟩
       · obtain⟨own',tl2',es',cs',hg1',hg2'⟩:=hB.cell hte
         have eL2:=letter_run hE src[sp] H2
         have eD2:=digit_run hE src[sp] H2
         unfold nameB at hn
         simp only[Bool.or_eq_false_iff]at hn
         rw[hn.1]at eL2
         rw[hn.2]at eD2
         generalize src[sp]=b2 at hg2' eL2 eD2
         simp only[byteC]at hg2' eL2 eD2
         by_cases cw:isWord (cutB src a sp)=true
         · rw[if_pos cw]at hl
           simp only[]at hl
           simp only[cutB]at cw
           obtain⟨H3,e1,e2,e3,e4,e5⟩:=growW ⟨3,a,0,cutB src a sp⟩
           simp only[Tk.cells,cutB]at e1
           simp[ht2,g7,u0,u3,u4,u5,hte,hg1',hg2',eL2,eD2,hc1,hcs,eW,cw,e1]
           exact⟨m,by omega,by omega,sp,_,HW.n+1,1,hl,by simp[ht2],by simp[ht2],by omega,by simp;omega,by omega,by omega,e2,e3,e4⟩
         · rw[if_neg cw]at hl
           have cw':isWord (cutB src a sp)=false:=by simpa using cw
           simp only[cutB]at cw'
           by_cases c12:12<sp - a
           · rw[if_pos c12]at hl
             cases hl
             simp[ht2,g7,u0,u3,u4,u5,hte,hg1',hg2',eL2,eD2,hc1,hcs,eW,cw',hsz,show (12:Int)<((sp - a:Nat):Int) by omega,gFW,hn2]
             exact⟨kSW.then_set hn2 (.inr (Nat.le_refl _)) _,by simp⟩
           · rw[if_neg c12]at hl
             simp only[]at hl
             obtain⟨H3,e1,e2,e3,e4,e5⟩:=growW ⟨1,a,0,cutB src a sp⟩
             simp only[Tk.cells,cutB]at e1
             simp[ht2,g7,u0,u3,u4,u5,hte,hg1',hg2',eL2,eD2,hc1,hcs,eW,cw',hsz,show ¬(12:Int)<((sp - a:Nat):Int) by omega,e1]
             exact⟨m,by omega,by omega,sp,_,HW.n+1,1,hl,by simp[ht2],by simp[ht2],by omega,by simp;omega,by omega,by omega,e2,e3,e4⟩
     · obtain⟨own',tl2',es',cs',hg1',hg2'⟩:=hB.cell hte
       have hw7:=wrap64 ((to:Int)+1) (by omega) (by omega)
       have eL2:=letter_run hE src[to] H2
       have eD2:=digit_run hE src[to] H2
       have hst:=step hte hn
       unfold nameB at hn
       generalize src[to]=b2 at *
       simp only[byteC]at hg2' eL2 eD2
       cases hL:letterB b2 with
       | true =>
        rw[hL]at eL2
        simp[ht2,g7,u0,u3,u4,u5,hte,hg1',hg2',hw7,eL2]
        exact⟨m2 - 1,by omega,to+1,by omega,by simp[ht2],rfl,by rw[← hst];exact hsp2⟩
       | false =>
        rw[hL,Bool.false_or]at hn
        rw[hL]at eL2
        rw[hn]at eD2
        simp[ht2,g7,u0,u3,u4,u5,hte,hg1',hg2',hw7,eL2,eD2]
        exact⟨m2 - 1,by omega,to+1,by omega,by simp[ht2],rfl,by rw[← hst];exact hsp2⟩
   rw[if_neg c4]at hl
   have c4':letterB b=false:=by simpa using c4
   have eD:=digit_run hE b H'
   simp only[byteC]at eD
   by_cases c5:digitB b=true
   · rw[if_pos c5]at hl
     obtain⟨hs1,hs2⟩:=spanTo_le (p:=digitB) (src:=src) (to:=a+1) (by omega)
     generalize hsp:spanTo digitB src (a+1)=sp at *
     simp[ht,g5,g4,t0,t3,hlt,hg1,hg2,hw1,D1,D2,D3,D4,D5,D6,D7,eL,c4',eD,c5]
     refine loop_wp (SpanI digitB src H' sp) (src.length - (a+1)) ⟨a+1,by omega,by simp[ht],rfl,hsp⟩ ?_
     rintro m2 t2 H2 hk2 ⟨to,hto,g7,rfl,hsp2⟩
     have ht2:t2.length=193:=hk2.1.trans (by simp[ht])
     have hh:=hk2.all [0,3,4,5] (by decide +kernel)
     simp[ht]at hh
     obtain⟨u0,u3,u4,u5⟩:=hh
     simp only[t0,t3,g4,g5]at u0 u3 u4 u5
     have step:(hte:to<src.length)→digitB src[to]=true→spanTo digitB src to=spanTo digitB src (to+1):=fun h1 h2=>spanTo_step h1 h2
     have stop:(hte:to<src.length)→digitB src[to]=false→sp=to:=fun h1 h2=>by rw[← hsp2,spanTo_stop h1 h2]
     obtain⟨hc1,hc2⟩:=hB.cut a sp (by omega) hs2 (by omega)
     have hlen2:((src.drop a).take (sp - a)).length=sp - a:=by simp;omega
     have hdig:∀ x∈(src.drop a).take (sp - a),digitB x=true:=by
      rw[← hsp]
      exact span_all hlt (by rw[hbb];exact c5)
     have eN:=number_run hE hc2 hdig (by omega)
     rw[hlen2]at eN
     have hn2:H.n<H2.n:=by omega
     have hend:(sp=to∧(to=src.length∨∃ h:to<src.length,digitB src[to]=false))∨(∃ h:to<src.length,digitB src[to]=true):=by
      by_cases hte:to<src.length
      · cases hn:digitB src[to]with
        | true=>exact .inr ⟨hte,hn⟩
        | false=>exact .inl ⟨stop hte hn,.inr ⟨hte,hn⟩⟩
      · have:to=src.length:=by omega
        refine .inl ⟨?_,.inl this⟩
        rw[← hsp2,this,spanTo_end]
     rcases hend with⟨rfl,hend⟩ | ⟨hte,hn⟩
     · rcases hend with hend | ⟨hte,hn⟩
       · have hns:¬(sp:Int)<src.length:=by omega
         cases hnum:numFrom ((src.drop a).take (sp - a)) 0 with
         | none =>
          rw[hnum]at hl eN
          cases hl
          simp[ht2,g7,u0,u3,u4,u5,hns,hc1,eN,gF,hn2]
          exact⟨kS.then_set hn2 (.inr (Nat.le_refl _)) _,by simp⟩
         | some v =>
          rw[hnum]at hl eN
          simp only[]at hl
          obtain⟨H3,e1,e2,e3,e4,e5⟩:=grow ⟨2,a,v,ByteArray.empty⟩
          simp only[Tk.cells]at e1
          simp[ht2,g7,u0,u3,u4,u5,hns,hc1,eN,e1]
          exact⟨m,by omega,by omega,sp,_,H2.n+1,1,hl,by simp[ht2],by simp[ht2],by omega,by simp;omega,by omega,by omega,e2,e3,e4⟩
       · obtain⟨own',tl2',es',cs',hg1',hg2'⟩:=hB.cell hte
         have eD2:=digit_run hE src[sp] H2
         rw[hn]at eD2
         generalize src[sp]=b2 at hg2' eD2
         simp only[byteC]at hg2' eD2
         cases hnum:numFrom ((src.drop a).take (sp - a)) 0 with
         | none =>
          rw[hnum]at hl eN
          cases hl
          simp[ht2,g7,u0,u3,u4,u5,hte,hg1',hg2',eD2,hc1,eN,gF,hn2]
          exact⟨kS.then_set hn2 (.inr (Nat.le_refl _)) _,by simp⟩
         | some v =>
          rw[hnum]at hl eN
          simp only[]at hl
          obtain⟨H3,e1,e2,e3,e4,e5⟩:=grow ⟨2,a,v,ByteArray.empty⟩
          simp only[Tk.cells]at e1
          simp[ht2,g7,u0,u3,u4,u5,hte,hg1',hg2',eD2,hc1,eN,e1]
          exact⟨m,by omega,by omega,sp,_,H2.n+1,1,hl,by simp[ht2],by simp[ht2],by omega,by simp;omega,by omega,by omega,e2,e3,e4⟩
     · obtain⟨own',tl2',es',cs',hg1',hg2'⟩:=hB.cell hte
       have hw7:=wrap64 ((to:Int)+1) (by omega) (by omega)
       have eD2:=digit_run hE src[to] H2
       have hst:=step hte hn
       generalize src[to]=b2 at *
       simp only[byteC]at hg2' eD2
       rw[hn]at eD2
       simp[ht2,g7,u0,u3,u4,u5,hte,hg1',hg2',hw7,eD2]
       exact⟨m2 - 1,by omega,to+1,by omega,by simp[ht2],rfl,by rw[← hst];exact hsp2⟩
   rw[if_neg c5]at hl
   have c5':digitB b=false:=by simpa using c5
   obtain⟨hq1,hq2⟩:=hB.tail a hlt
   have eS:=sign_run hE hq2 (by simp;omega) (by simp;omega)
   simp only[List.length_drop]at eS
   have hsig:signP (src.drop a)≤src.length - a:=by
    have:=signP_le (src.drop a)
    simpa using this
   by_cases c6:signP (src.drop a)=0
   · rw[if_pos c6]at hl
     cases hl
     have hn2:H.n<H'.n:=by omega
     simp[ht,g5,g4,t0,t3,hlt,hg1,hg2,hw1,D1,D2,D3,D4,D5,D6,D7,eL,c4',eD,c5',hq1,eS,c6,gF,hn2]
     exact⟨kS.then_set hn2 (.inr (Nat.le_refl _)) _,by simp⟩
   · rw[if_neg c6]at hl
     simp only[]at hl
     generalize hsg:signP (src.drop a)=sg at *
     obtain⟨hc1,hc2⟩:=hB.cut a (a+sg) (by omega) (by omega) (by omega)
     have hcs:=conv_str hc2 sg (by simp;omega)
     rw[show a+sg - a=sg by omega]at hc1 hcs
     rw[show ((a+sg:Nat):Int)=(a:Int)+sg by omega]at hc1
     obtain⟨H2,e1,e2,e3,e4,e5⟩:=grow ⟨4,a,0,cutB src a (a+sg)⟩
     simp only[Tk.cells,cutB]at e1
     rw[show a+sg - a=sg by omega]at e1
     have hws:=wrap64 ((a:Int)+sg) (by omega) (by omega)
     simp[ht,g5,g4,t0,t3,hlt,hg1,hg2,hw1,D1,D2,D3,D4,D5,D6,D7,eL,c4',eD,c5',hq1,eS,c6,hws,hc1,hcs,e1]
     exact⟨m,by omega,by omega,a+sg,_,H'.n+1,1,hl,by simp[ht],by simp[ht],by omega,by simp;omega,by omega,by omega,e2,e3,e4⟩
 · rw[dif_neg hlt]at hl
   cases hl
   obtain⟨H2,e1,e2,e3,e4,e5⟩:=grow ⟨5,src.length,0,ByteArray.empty⟩
   simp only[Tk.cells]at e1
   have hn2:H.n<H2.n:=by omega
   simp[ht,g5,g4,t0,t3,hlt,e1,e3,hn2]
   have ks:Same (fun i=>i=H.n) H2 (H2.set H.n (.row true 0 1 [.int .i64 0,.int .i64 0])):=Same.set (X:=fun i=>i=H.n) H2 hn2 rfl _
   refine⟨e4.then ks (fun i hi => .inr (by omega)),H'.n+1,by omega,by simp,1,by omega,ks.at e2 (by simp) (by omega)⟩
end
end Go.Vm.Parse
namespace Go.Vm
structure Rep (α:Type) where
 k:Nat
 R:Heap→(Nat→Prop)→α→List Value→Prop
 len:∀ {H S a cs},R H S a cs→cs.length=k
 move:∀ {X S S':Nat→Prop} {H H':Heap},Same X H H'→(∀ i,S i→i<H.n→S' i∧¬X i)→∀ a cs,R H S a cs→R H' S' a cs
variable {α:Type}
def Rep.L (ρ:Rep α)(H:Heap)(S:Nat→Prop):List α→List Value→Prop
 | [],cs=>cs=[]
 | a :: l,cs=>∃ c1 c2,cs=c1++c2∧ρ.R H S a c1∧Rep.L ρ H S l c2
theorem Rep.L_len (ρ:Rep α){H:Heap}{S:Nat→Prop}:∀ {l:List α}{cs:List Value},ρ.L H S l cs→cs.length=l.length * ρ.k
 | [],cs,h=>by simp only[Rep.L]at h;subst h;simp
 | a :: l, cs, h => by
  obtain⟨c1,c2,rfl,h1,h2⟩:=h
  have:=Rep.L_len ρ h2
  have:=ρ.len h1
  simp[Nat.add_mul];omega
theorem Rep.L_move (ρ:Rep α){X S S':Nat→Prop}{H H':Heap}(k:Same X H H')(hs:∀ i,S i→i<H.n→S' i∧¬X i):∀ {l:List α}{cs:List Value},ρ.L H S l cs→ρ.L H' S' l cs
 | [],cs,h=>h
 | a :: l, cs, h => by
  obtain⟨c1,c2,e,h1,h2⟩:=h
  exact⟨c1,c2,e,ρ.move k hs _ _ h1,Rep.L_move ρ k hs h2⟩
theorem Rep.L_snoc (ρ:Rep α){H:Heap}{S:Nat→Prop}{a:α}{c:List Value}(h:ρ.R H S a c):∀ {l:List α}{cs:List Value},ρ.L H S l cs→ρ.L H S (l++[a]) (cs++c)
 | [], cs, h0 => by
  simp only[Rep.L]at h0
  subst h0
  exact⟨c,[],by simp,h,rfl⟩
 | b :: l, cs, h0 => by
  obtain⟨c1,c2,rfl,h1,h2⟩:=h0
  exact⟨c1,c2++c,by simp,h1,Rep.L_snoc ρ h h2⟩
def vid (v:Value)(i:Nat):Prop:=match v with
 | .slice (some a) _ _=>a.block=i
 | _=>False
def Rep.G (ρ:Rep α)(H:Heap)(S:Nat→Prop)(v:Value)(l:List α):Prop :=
 (v = .slice none 0 0∧l=[])∨∃ id tl cs,v = .slice (some ⟨id,0,none⟩) l.length l.length∧tl≤1∧S id∧H.get id = .row true tl ρ.k cs∧ρ.L H (fun i=>S i∧i≠id) l cs
theorem Rep.G_move (ρ:Rep α){X S S':Nat→Prop}{H H':Heap}(k:Same X H H')(hs:∀ i,S i→i<H.n→S' i∧¬X i){v:Value}{l:List α}(h:ρ.G H S v l):ρ.G H' S' v l:=by
 refine h.imp id ?_
 rintro⟨id,tl,cs,h1,h2,h3,h4,h5⟩
 have:=hs id h3 (Heap.lt_of_get h4 (by simp))
 exact⟨id,tl,cs,h1,h2,this.1,k.at h4 (by simp) this.2,ρ.L_move k (fun i hi hl=>⟨⟨(hs i hi.1 hl).1,hi.2⟩,(hs i hi.1 hl).2⟩) h5⟩
theorem Rep.G_lt (ρ:Rep α){H:Heap}{S:Nat→Prop}{v:Value}{l:List α}(h:ρ.G H S v l){i:Nat}(hi:vid v i):i<H.n∧S i:=by
 rcases h with⟨rfl,_⟩ | ⟨id,tl,cs,rfl,h2,h3,h4,h5⟩
 · exact hi.elim
 · have:id=i:=hi
   subst this
   exact⟨Heap.lt_of_get h4 (by simp),h3⟩
theorem Rep.G_empty (ρ:Rep α)(H:Heap){S:Nat→Prop}(hS:S H.n):ρ.G (H.push (.row true 0 ρ.k [])) S (.slice (some ⟨H.n,0,none⟩) 0 0) [] :=
 .inr ⟨H.n,0,[],rfl,by omega,hS,Heap.get_push_self _ _,rfl⟩
theorem Rep.G_app (ρ:Rep α){P:Program}{t:TypeId}(T:TF P t ρ.k){H:Heap}{S:Nat→Prop}{v:Value}{l:List α}(h:ρ.G H S v l)(hS:∀ i,H.n≤i→S i)(hl:l.length≤100000){a:α}{c:List Value}(ha:ρ.R H (fun i=>S i∧¬vid v i) a c) :
  ∃ v' H',exAppend P [t,t] v (.slice (some ⟨H.n,0,none⟩) 1 1) (H.push (.row true 0 ρ.k c))=some (v',H')∧ρ.G H' S v' (l++[a])∧Same (vid v) H H':=by
 have hc:=ρ.len ha
 have hx:(H.push (.row true 0 ρ.k c)).get H.n = .row true 0 ρ.k c:=Heap.get_push_self _ _
 have kp:Same (fun _=>False) H (H.push (.row true 0 ρ.k c)):=Same.push _ _ _
 rcases h with⟨rfl,rfl⟩ | ⟨id,tl,cs,rfl,h2,h3,h4,h5⟩
 · have e:=app_nil T hc hx (xc:=1)
   have k2:Same (fun _=>False) H ((H.push (.row true 0 ρ.k c)).push (.row true 1 ρ.k c)):=kp.then_push _
   refine⟨_,_,e,.inr ⟨_,1,c,rfl,by omega,hS _ (by simp),Heap.get_push_self _ _,?_⟩,k2.mono fun i hi=>hi.elim⟩
   refine⟨c,[],by simp,ρ.move k2 (fun i hi hlt=>⟨⟨hi.1,by simp;omega⟩,fun h=>h⟩) _ _ ha,rfl⟩
 · have hid:=Heap.lt_of_get h4 (by simp)
   have h4':(H.push (.row true 0 ρ.k c)).get id = .row true tl ρ.k cs:=kp.at h4 (by simp) (fun h=>h)
   obtain⟨H',e1,e2,e3,e4⟩:=app_one T h4' (ρ.L_len h5) h2 hc hx hl (xc:=1)
   have k2:Same (fun i=>i=id) H H':=(kp.mono fun i hi=>hi.elim).trans e4
   refine⟨_,H',e1,.inr ⟨_,1,cs++c,?_,by omega,hS _ (by simp),e2,?_⟩,k2.mono fun i hi=>hi.symm⟩
   · simp
   · refine ρ.L_snoc ?_ (ρ.L_move k2 (fun i hi hlt=>⟨⟨hi.1,by simp;omega⟩,hi.2⟩) h5)
     exact ρ.move k2 (fun i hi hlt=>⟨⟨hi.1,by simp;omega⟩,fun e=>hi.2 e.symm⟩) _ _ ha
end Go.Vm
namespace Go.Vm.Parse
open Go Go.Proofs
attribute [local simp] repCells_succ writeAt rd_Fr toList_beq gpe gpn spe gse gsn ne_r0 ne_l0 le_s0 ne_r1 ne_l1 lt_s1 le_s1 ne_r2 ne_l2 lt_s2 le_s2 ne_r3 ne_l3 lt_s3 le_s3 ne_r4 ne_l4 lt_s4 le_s4 ne_r5 ne_l5 lt_s5 le_s5 ne_r6 ne_l6 lt_s6 le_s6 ne_r7 ne_l7 lt_s7 le_s7
structure Itm where
 at_:Int
 name:ByteArray
 n:Int
def repItm:Rep Itm where
 k:=3
 R _ _ x cs:=cs=[.int .i64 x.at_,.string x.name,.int .i64 x.n]
 len h:=by subst h;rfl
 move _ _ _ _ h:=h
def repEx:Rep Ex where
 k:=6
 R:=RE
 len:=RE.len
 move k hs:=RE.move k hs
theorem repEx_L {H:Heap}{S:Nat→Prop}:∀ {l:List Ex}{cs:List Value},repEx.L H S l cs↔REs H S l cs
 | [],cs=>by simp only[Rep.L,REs]
 | e :: es, cs => by
  simp only[Rep.L,REs]
  constructor
  · rintro⟨c1,c2,h1,h2,h3⟩;exact⟨c1,c2,h1,h2,repEx_L.1 h3⟩
  · rintro⟨c1,c2,h1,h2,h3⟩;exact⟨c1,c2,h1,h2,repEx_L.2 h3⟩
theorem nameS_on {L:List Tk}{s:PS}(h:(nameS L s).c=0):s.c=0∧nameS L s=s.on:=by
 unfold nameS at h ⊢
 split at h
 · rename_i hc;exact⟨hc.1,by rw[if_pos hc];rfl⟩
 · unfold faultS at h
   split at h
   · simp at h
   · exact absurd h (by assumption)
theorem numS_on {L:List Tk}{s:PS}(h:(numS L s).c=0):s.c=0∧numS L s=s.on:=by
 unfold numS at h ⊢
 split at h
 · rename_i hc;exact⟨hc.1,by rw[if_pos hc];rfl⟩
 · unfold faultS at h
   split at h
   · simp at h
   · exact absurd h (by assumption)
def comma:ByteArray:=⟨#[44]⟩
def itemsL (L:List Tk):Nat→List Itm→Bool→PS→Option (List Itm × PS)
 | 0,_,_,_=>none
 | n + 1, acc, again, s =>
  if again=true∧s.c=0 then
   itemsL L n (acc++[⟨(nameP L s).at_,(nameP L s).name,(numP L (nameS L s)).1⟩]) (isP L (numS L (nameS L s)) comma) (takeS L (numS L (nameS L s)) comma)
  else some (acc,s)
def ItemsI (r lid:Nat)(L:List Tk)(H:Heap)(res:List Itm)(s':PS)(n m:Nat)(t:List Value)(H':Heap):Prop :=
 m≤n∧∃ acc again s v,itemsL L m acc again s=some (res,s')∧rd t 4 = .bool again∧rd t 3=v∧repItm.G H' (fun i=>H.n≤i) v acc∧RD H' r lid L s∧Same (·=r) H H'∧(s.c=0→acc.length≤s.p)
def RetG {α:Type}(ρ:Rep α)(H:Heap)(r lid:Nat)(L:List Tk)(l:List α)(s:PS)(o:Out)(H':Heap):Prop :=
 ∃ v,o = .val v∧Same (·=r) H H'∧RD H' r lid L s∧ρ.G H' (fun i=>H.n≤i) v l
theorem tf_itm:TF Tryz.prog 26 3:=⟨_,_,_,by simp,by simp,by simp;rfl,by omega,by simp;rfl,rfl,by omega,rfl⟩
section
variable {E:Hooks} (hE:Plain E) {r lid:Nat} {L:List Tk}
include hE
theorem items_run {n:Nat}{s s':PS}{l:List Itm}(hx:itemsL L n [] true s=some (l,s')){H:Heap}(h:RD H r lid L s):Gives ((run Tryz.prog E).call 31 [.pointer (some ⟨r,0,none⟩)] H) (RetG repItm H r lid L l s'):=by
 have hr:=h.lt
 have hl:=h.lid_lt
 have hsm:=h.small
 rw[c_items hE,callB,bodyOf]
 simp[Tryz.f31]
 refine loop_wp (ItemsI r lid L H l s' n) n ?_ ?_
 · exact⟨Nat.le_refl n,[],true,s,.slice (some ⟨H.n,0,none⟩) 0 0,hx,by simp,by simp,repItm.G_empty H (Nat.le_refl _),h.same (Same.push _ _ _),Same.push _ _ _,fun _=>by simp⟩
 rintro m t H' hk ⟨hmn,acc,again,s1,v,hxl,g4,g3,hG,hR,hS,hlen⟩
 have ht:t.length=34:=hk.1.trans (by simp[len_Bs])
 have hh:=hk.all [0] (by decide +kernel)
 simp at hh
 have eb:=bad_run hE hR
 have nS:=hS.n
 cases m with
 | zero=>cases hxl
 | succ m =>
 rw[itemsL]at hxl
 by_cases hg:again=true∧s1.c=0
 · rw[if_pos hg]at hxl
   obtain⟨rfl,hc⟩:=hg
   obtain⟨HA,eA,kA,hA⟩:=name_run hE hR
   have hA2:=hA.same (Same.push _ _ (.row true 0 1 (nameP L s1).cells))
   have nA:=kA.n
   obtain⟨HB,eB,kB,hB⟩:=num_run hE hA2
   have nB:=kB.n
   simp at nB
   have gB:HB.get HA.n = .row true 0 1 (nameP L s1).cells:=kB.at (Heap.get_push_self _ _) (by simp) (by omega)
   have kAB:Same (·=r) H' HB:=(kA.then_push _).trans kB
   have hvr:∀ i,vid v i→H.n≤i:=fun i hi=>(repItm.G_lt hG hi).2
   have hG2:=repItm.G_move kAB (S':=fun i=>H.n≤i) (fun i hi _=>⟨hi,by omega⟩) hG
   obtain⟨v',HC,eC,gC,kC⟩:=repItm.G_app tf_itm hG2 (fun i hi=>by omega) (by have:=hlen hc;have:=hR.place;omega) (a:=⟨(nameP L s1).at_,(nameP L s1).name,(numP L (nameS L s1)).1⟩) (c:=[.int .i64 (nameP L s1).at_,.string (nameP L s1).name,.int .i64 (numP L (nameS L s1)).1]) rfl
   have hC:=hB.keep kC (fun hi=>by have:=hvr _ hi;omega) (fun hi=>by have:=hvr _ hi;omega)
   obtain⟨HD,eD,kD,hD⟩:=take_run hE hC comma
   have nC:=kC.n
   have kk:Same (·=r) H HC:=(hS.trans kAB).then kC (fun i hi => .inr (hvr i hi))
   simp only[Idn.cells,comma]at eA gB eB eD
   simp only[repItm]at eC
   simp[ht,g4,g3,hh,eb,hc,eA,eB,gB,eC,eD]
   refine⟨m,by omega,by omega,_,_,_,v',hxl,by simp[ht,comma],by simp[ht],repItm.G_move kD (fun i hi _=>⟨hi,by omega⟩) gC,hD,kk.trans kD,fun h0 => ?_⟩
   have h1:=takeS_c L (numS L (nameS L s1)) comma
   have h2:=numS_on (L:=L) (s:=nameS L s1) (by rw[← h1.1];exact h0)
   have h3:=nameS_on h2.1
   have h4:=hlen hc
   rw[h2.2,h3.2]at h1 ⊢
   simp only[PS.on]at h1 ⊢
   simp
   omega
 · rw[if_neg hg]at hxl
   cases hxl
   by_cases ha:again=true
   · have hc:¬s'.c=0:=fun e=>hg ⟨ha,e⟩
     subst ha
     simp[ht,g4,g3,hh,eb,hc]
     exact⟨v,rfl,hS,hR,hG⟩
   · have ha':again=false:=by simpa using ha
     subst ha'
     simp[ht,g4,g3,hh]
     exact⟨v,rfl,hS,hR,hG⟩
end
def argsL (L:List Tk)(lv:Int):Nat→List Ex→Bool→PS→Option (List Ex × PS)
 | 0,_,_,_=>none
 | n + 1, acc, again, s =>
  if again=true∧s.c=0 then (xP L n (.row 1 lv) s).bind fun q=>argsL L lv n (acc++[q.1]) (isP L q.2 comma) (takeS L q.2 comma)
  else some (acc,s)
def argsP (L:List Tk)(n:Nat)(lv:Int)(s:PS):Option (List Ex × PS) :=
 if isP L (mustS L s (b1 40)) (b1 41)=true then some ([],(mustS L s (b1 40)).on)
 else (argsL L lv n [] true (mustS L s (b1 40))).map fun q=>(q.1,mustS L q.2 (b1 41))
def ArgsI (r lid:Nat)(L:List Tk)(lv:Int)(H:Heap)(res:List Ex)(s':PS)(n m:Nat)(t:List Value)(H':Heap):Prop :=
 m≤n∧∃ acc again s v,argsL L lv m acc again s=some (res,s')∧rd t 6 = .bool again∧rd t 5=v∧repEx.G H' (fun i=>H.n≤i) v acc∧RD H' r lid L s∧Same (·=r) H H'∧(s.c=0→acc.length≤s.p)
theorem tf_ex:TF Tryz.prog 51 6:=⟨_,_,_,by simp,by simp,by simp;rfl,by omega,by simp;rfl,rfl,by omega,rfl⟩
section
variable {E:Hooks} (hE:Plain E) {r lid:Nat} {L:List Tk}
include hE
theorem args_run {n:Nat}{lv:Int}(h0:0≤lv)(h24:lv≤24){s s':PS}{l:List Ex}(hx:argsP L n lv s=some (l,s')){H:Heap}(h:RD H r lid L s):Gives ((run Tryz.prog E).call 90 [.pointer (some ⟨r,0,none⟩),.int .i64 lv] H) (RetG repEx H r lid L l s'):=by
 have hr:=h.lt
 have hl:=h.lid_lt
 have hsm:=h.small
 have hP:=h.same (Same.push _ _ (.row true 0 6 []))
 obtain⟨HA,eA,kA,hA⟩:=must_run hE hP (b1 40)
 obtain⟨HB,eB,kB,hB⟩:=take_run hE hA (b1 41)
 have nA:=kA.n
 have nB:=kB.n
 simp at nA
 have kAB:Same (·=r) (H.push (.row true 0 6 [])) HB:=kA.trans kB
 have kHB:Same (·=r) H HB:=(Same.push _ _ _).trans kAB
 have gE:repEx.G HB (fun i=>H.n≤i) (.slice (some ⟨H.n,0,none⟩) 0 0) []:=repEx.G_move kAB (fun i hi _=>⟨hi,by omega⟩) (repEx.G_empty H (Nat.le_refl _))
 rw[c_args hE,callB,bodyOf]
 unfold argsP at hx
 by_cases hi:isP L (mustS L s (b1 40)) (b1 41)=true
 · rw[if_pos hi]at hx
   cases hx
   have hB:RD HB r lid L (mustS L s (b1 40)).on:=by unfold takeS at hB;rw[if_pos hi]at hB;exact hB
   simp only[b1]at eA eB hi
   simp[Tryz.f90,eA,eB,hi]
   exact⟨_,rfl,kHB,hB,gE⟩
 · rw[if_neg hi]at hx
   have hB:RD HB r lid L (mustS L s (b1 40)):=by unfold takeS at hB;rw[if_neg hi]at hB;exact hB
   have hi':isP L (mustS L s (b1 40)) (b1 41)=false:=by simpa using hi
   simp only[Option.map_eq_some_iff]at hx
   obtain⟨⟨l1,s1⟩,hx1,hx2⟩:=hx
   cases hx2
   simp only[b1]at eA eB hi'
   simp[Tryz.f90,eA,eB,hi']
   refine loop_wp (ArgsI r lid L lv H l1 s1 n) n ?_ ?_
   · exact⟨Nat.le_refl n,[],true,_,.slice (some ⟨H.n,0,none⟩) 0 0,hx1,by simp,by simp,gE,hB,kHB,fun _=>by simp⟩
   rintro m t H' hk ⟨hmn,acc,again,s2,v,hxl,g6,g5,hG,hR,hS,hlen⟩
   have ht:t.length=30:=hk.1.trans (by simp[len_Bs])
   have hh:=hk.all [0,1] (by decide +kernel)
   simp at hh
   obtain⟨t0,t1⟩:=hh
   have eb:=bad_run hE hR
   have nS:=hS.n
   obtain⟨HZ,eZ,kZ,hZ⟩:=must_run hE hR (b1 41)
   simp only[b1]at eZ
   cases m with
   | zero=>cases hxl
   | succ m =>
   rw[argsL]at hxl
   by_cases hg:again=true∧s2.c=0
   · rw[if_pos hg]at hxl
     obtain⟨rfl,hc⟩:=hg
     simp only[Option.bind_eq_some_iff]at hxl
     obtain⟨⟨x,s3⟩,hxa,hxb⟩:=hxl
     obtain⟨o,HC,eC,cs,rfl,kC,hC,rC⟩:=(x_all hE m).1 _ _ _ _ _ hxa (by omega) (by omega) h0 h24 _ hR
     have hvr:∀ i,vid v i→H.n≤i:=fun i hi=>(repEx.G_lt hG hi).2
     have hvl:∀ i,vid v i→i<H'.n:=fun i hi=>(repEx.G_lt hG hi).1
     have nC:=kC.n
     have hG2:=repEx.G_move kC (S':=fun i=>H.n≤i) (fun i hi _=>⟨hi,by omega⟩) hG
     have hmono:=x_le L _ _ _ _ _ hxa
     obtain⟨v',HD,eD,gD,kD⟩:=repEx.G_app tf_ex hG2 (fun i hi=>by omega) (by have:=hlen hc;have:=hR.place;omega) (a:=x) (c:=cs) (RE.move (Same.refl (fun _=>False) _) (fun i hi _=>⟨⟨by omega,fun e=>by have:=hvl _ e;omega⟩,fun h=>h⟩) _ _ rC)
     have hD:=hC.keep kD (fun hi=>by have:=hvr _ hi;omega) (fun hi=>by have:=hvr _ hi;omega)
     obtain⟨HE2,eE,kE,hE2⟩:=take_run hE hD comma
     have nD:=kD.n
     have kk:Same (·=r) H HD:=(hS.trans kC).then kD (fun i hi => .inr (hvr i hi))
     obtain⟨a,b,c,d,y,w,rfl,hw1,hw2⟩:=rC.six
     simp only[comma]at eE
     simp only[repEx]at eD
     simp[ht,g6,g5,t0,t1,eb,hc,eC,hw1,eD,eE]
     refine⟨m,by omega,by omega,_,_,_,v',hxb,by simp[ht,comma],by simp[ht],repEx.G_move kE (fun i hi _=>⟨hi,by omega⟩) gD,hE2,kk.trans kE,fun e0 => ?_⟩
     have h1:=takeS_c L s3 comma
     have h2:=hmono.2 rfl (by rw[← h1.1];exact e0)
     have h4:=hlen hc
     simp
     omega
   · rw[if_neg hg]at hxl
     cases hxl
     by_cases ha:again=true
     · have hc:¬s1.c=0:=fun e=>hg ⟨ha,e⟩
       subst ha
       simp[ht,g6,g5,t0,t1,eb,hc,eZ]
       exact⟨v,rfl,hS.trans kZ,hZ,repEx.G_move kZ (fun i hi _=>⟨hi,by omega⟩) hG⟩
     · have ha':again=false:=by simpa using ha
       subst ha'
       simp[ht,g6,g5,t0,t1,eZ]
       exact⟨v,rfl,hS.trans kZ,hZ,repEx.G_move kZ (fun i hi _=>⟨hi,by omega⟩) hG⟩
end
end Go.Vm.Parse
namespace Go.Vm
theorem Rep.G_slice {α:Type}(ρ:Rep α){H:Heap}{S:Nat→Prop}{v:Value}{l:List α}(h:ρ.G H S v l):∃ b,v = .slice b l.length l.length:=by
 rcases h with⟨rfl,rfl⟩ | ⟨id,tl,cs,rfl,_⟩
 · exact⟨none,rfl⟩
 · exact⟨_,rfl⟩
theorem Rep.G_nil {α:Type}(ρ:Rep α)(H:Heap)(S:Nat→Prop):ρ.G H S (.slice none 0 0) [] := .inl ⟨rfl,rfl⟩
theorem Rep.G_one {α:Type}(ρ:Rep α){H:Heap}{S:Nat→Prop}{a:α}{c:List Value}(h:ρ.R H S a c)(hS:∀ i,S i→i<H.n→S i∧i≠H.n)(hn:S H.n):ρ.G (H.push (.row true 0 ρ.k c)) S (.slice (some ⟨H.n,0,none⟩) 1 1) [a] :=
 .inr ⟨H.n,0,c,rfl,by omega,hn,Heap.get_push_self _ _,c,[],(List.append_nil _).symm,ρ.move (Same.push (fun _=>False) _ _) (fun i hi hl=>⟨hS i hi hl,fun h=>h⟩) _ _ h,rfl⟩
end Go.Vm
namespace Go.Vm.Parse
open Go Go.Proofs
structure Bra where
 at_:Int
 name:ByteArray
 args:List Ex
 claims:List Itm
def RB (H:Heap)(S:Nat→Prop)(b:Bra)(cs:List Value):Prop:=∃ v w,cs=[.int .i64 b.at_,.string b.name,v,w]∧repEx.G H S v b.args∧repItm.G H S w b.claims
def repBra:Rep Bra where
 k:=4
 R:=RB
 len h:=by obtain⟨v,w,rfl,_⟩:=h;rfl
 move k hs b cs h:=by
  obtain⟨v,w,e,h1,h2⟩:=h
  exact⟨v,w,e,repEx.G_move k hs h1,repItm.G_move k hs h2⟩
inductive Stm where
 | mk (kind at_:Int) (name:ByteArray) (e:List Ex) (body els:List Stm) (br:List Bra) (items:List Itm)
mutual
def RS (H:Heap)(S:Nat→Prop):Stm→List Value→Prop
 | .mk kind at_ name e body els br items, cs => ∃ v1 v2 v3 v4 v5, cs = [.int .i64 kind, .int .i64 at_, .string name, v1, v2, v3, v4, v5] ∧
  repEx.G H S v1 e∧repBra.G H S v4 br∧repItm.G H S v5 items ∧
  ((v2 = .slice none 0 0∧body=[])∨∃ id tl cs',v2 = .slice (some ⟨id,0,none⟩) body.length body.length∧tl≤1∧S id∧H.get id = .row true tl 8 cs'∧RSs H S body cs') ∧
  ((v3 = .slice none 0 0∧els=[])∨∃ id tl cs',v3 = .slice (some ⟨id,0,none⟩) els.length els.length∧tl≤1∧S id∧H.get id = .row true tl 8 cs'∧RSs H S els cs')
def RSs (H:Heap)(S:Nat→Prop):List Stm→List Value→Prop
 | [],cs=>cs=[]
 | a :: l,cs=>∃ c1 c2,cs=c1++c2∧RS H S a c1∧RSs H S l c2
end
mutual
theorem RS.move {X S S':Nat→Prop}{H H':Heap}(k:Same X H H')(hs:∀ i,S i→i<H.n→S' i∧¬X i):∀ (e:Stm)(cs:List Value),RS H S e cs→RS H' S' e cs
 | .mk kind at_ name e body els br items, cs, h => by
  simp only[RS]at h ⊢
  obtain⟨v1,v2,v3,v4,v5,h1,h2,h3,h4,h5,h6⟩:=h
  refine⟨v1,v2,v3,v4,v5,h1,repEx.G_move k hs h2,repBra.G_move k hs h3,repItm.G_move k hs h4,h5.imp id ?_,h6.imp id ?_⟩
  · rintro⟨id,tl,cs',h3,h3',h4,h5,h6⟩
    have:=hs id h4 (Heap.lt_of_get h5 (by simp))
    exact⟨id,tl,cs',h3,h3',this.1,k.at h5 (by simp) this.2,RSs.move k hs body cs' h6⟩
  · rintro⟨id,tl,cs',h3,h3',h4,h5,h6⟩
    have:=hs id h4 (Heap.lt_of_get h5 (by simp))
    exact⟨id,tl,cs',h3,h3',this.1,k.at h5 (by simp) this.2,RSs.move k hs els cs' h6⟩
theorem RSs.move {X S S':Nat→Prop}{H H':Heap}(k:Same X H H')(hs:∀ i,S i→i<H.n→S' i∧¬X i):∀ (es:List Stm)(cs:List Value),RSs H S es cs→RSs H' S' es cs
 | [],cs,h=>by simp only[RSs]at h ⊢;exact h
 | e :: es, cs, h => by
  simp only[RSs]at h ⊢
  obtain⟨c1,c2,h1,h2,h3⟩:=h
  exact⟨c1,c2,h1,RS.move k hs e c1 h2,RSs.move k hs es c2 h3⟩
end
theorem RS.len {H:Heap}{S:Nat→Prop}{e:Stm}{cs:List Value}(h:RS H S e cs):cs.length=8:=by
 cases e
 simp only[RS]at h
 obtain⟨v1,v2,v3,v4,v5,rfl,_⟩:=h
 rfl
def repStm:Rep Stm where
 k:=8
 R:=RS
 len:=RS.len
 move k hs:=RS.move k hs
theorem repStm_L {H:Heap}{S:Nat→Prop}:∀ {l:List Stm}{cs:List Value},repStm.L H S l cs↔RSs H S l cs
 | [],cs=>by simp only[Rep.L,RSs]
 | e :: es, cs => by
  simp only[Rep.L,RSs]
  constructor
  · rintro⟨c1,c2,h1,h2,h3⟩;exact⟨c1,c2,h1,h2,repStm_L.1 h3⟩
  · rintro⟨c1,c2,h1,h2,h3⟩;exact⟨c1,c2,h1,h2,repStm_L.2 h3⟩
theorem RSs.weak {H:Heap}{S S':Nat→Prop}(h:∀ i,S i→S' i){l:List Stm}{cs:List Value}(k:RSs H S l cs):RSs H S' l cs :=
 RSs.move (Same.refl (fun _=>False) H) (fun i hi _=>⟨h i hi,fun h=>h⟩) _ _ k
theorem RS.put {H:Heap}{S:Nat→Prop}{kind at_:Int}{name:ByteArray}{e:List Ex}{body els:List Stm}{br:List Bra}{items:List Itm}{v1 v2 v3 v4 v5:Value}
  (h1:repEx.G H S v1 e) (h2:repStm.G H S v2 body) (h3:repStm.G H S v3 els) (h4:repBra.G H S v4 br) (h5:repItm.G H S v5 items) :
  RS H S (.mk kind at_ name e body els br items) [.int .i64 kind,.int .i64 at_,.string name,v1,v2,v3,v4,v5]:=by
 simp only[RS]
 refine⟨v1,v2,v3,v4,v5,rfl,h1,h4,h5,h2.imp (fun h=>h) ?_,h3.imp (fun h=>h) ?_⟩
 · rintro⟨id,tl,cs,a,b,c,d,e⟩
   exact⟨id,tl,cs,a,b,c,d,(repStm_L.1 e).weak fun i hi=>hi.1⟩
 · rintro⟨id,tl,cs,a,b,c,d,e⟩
   exact⟨id,tl,cs,a,b,c,d,(repStm_L.1 e).weak fun i hi=>hi.1⟩
theorem RS.eight {H:Heap}{S:Nat→Prop}{e:Stm}{cs:List Value}(h:RS H S e cs) :
  ∃ a b x b1 n1 c1 b2 n2 c2 b3 n3 c3 b4 n4 c4 b5 n5 c5,cs=[.int .i64 a,.int .i64 b,.string x,.slice b1 n1 c1,.slice b2 n2 c2,.slice b3 n3 c3,.slice b4 n4 c4,.slice b5 n5 c5]:=by
 cases e
 simp only[RS]at h
 obtain⟨v1,v2,v3,v4,v5,rfl,h1,h4,h5,h2,h3⟩:=h
 obtain⟨b1,rfl⟩:=repEx.G_slice h1
 obtain⟨b4,rfl⟩:=repBra.G_slice h4
 obtain⟨b5,rfl⟩:=repItm.G_slice h5
 rcases h2 with⟨rfl,_⟩ | ⟨_,_,_,rfl,_⟩<;>rcases h3 with⟨rfl,_⟩ | ⟨_,_,_,rfl,_⟩<;>exact⟨_,_,_,_,_,_,_,_,_,_,_,_,_,_,_,_,_,_,rfl⟩
def tIf:ByteArray:=⟨#[105,102]⟩
def tSkip:ByteArray:=⟨#[115,107,105,112]⟩
def tThen:ByteArray:=⟨#[116,104,101,110]⟩
def tElse:ByteArray:=⟨#[101,108,115,101]⟩
def tFi:ByteArray:=⟨#[102,105]⟩
def tWhile:ByteArray:=⟨#[119,104,105,108,101]⟩
def tDo:ByteArray:=⟨#[100,111]⟩
def tOd:ByteArray:=⟨#[111,100]⟩
def tCobegin:ByteArray:=⟨#[99,111,98,101,103,105,110]⟩
def tCoend:ByteArray:=⟨#[99,111,101,110,100]⟩
def tSlash:ByteArray:=⟨#[47,47]⟩
def tRegion:ByteArray:=⟨#[114,101,103,105,111,110]⟩
def tWhen:ByteArray:=⟨#[119,104,101,110]⟩
def tRequest:ByteArray:=⟨#[114,101,113,117,101,115,116]⟩
def tRelease:ByteArray:=⟨#[114,101,108,101,97,115,101]⟩
def tRead:ByteArray:=⟨#[114,101,97,100]⟩
def tWrite:ByteArray:=⟨#[119,114,105,116,101]⟩
def tClaims:ByteArray:=⟨#[99,108,97,105,109,115]⟩
def tSet:ByteArray:=⟨#[58,61]⟩
def tSemi:ByteArray:=⟨#[59]⟩
def namedP (L:List Tk)(n:Nat)(lv:Int)(s:PS):Option (Stm × PS) :=
 if isP L (nameS L s) (b1 40)=true then
  (argsP L n lv (nameS L s)).map fun q=>(.mk 6 (nameP L s).at_ (nameP L s).name q.1 [] [] [] [],q.2)
 else if isP L (nameS L s) (b1 91)=true then
  (xP L n (.index lv) (nameS L s)).bind fun i=>(xP L n (.row 1 lv) (mustS L i.2 tSet)).map fun q=>(.mk 3 (nameP L s).at_ (nameP L s).name [i.1,q.1] [] [] [] [],q.2)
 else (xP L n (.row 1 lv) (mustS L (nameS L s) tSet)).map fun q=>(.mk 2 (nameP L s).at_ (nameP L s).name [q.1] [] [] [] [],q.2)
def branP (L:List Tk)(n:Nat)(lv:Int)(s:PS):Option (Bra × PS) :=
 (argsP L n lv (nameS L s)).bind fun a =>
  if isP L a.2 tClaims=true then (itemsL L n [] true a.2.on).map fun q=>(⟨(nameP L s).at_,(nameP L s).name,a.1,q.1⟩,q.2)
  else some (⟨(nameP L s).at_,(nameP L s).name,a.1,[]⟩,a.2)
abbrev BrP:=List Tk→Nat→Int→PS→Option (Bra × PS)
def branL (B:BrP)(L:List Tk)(lv:Int):Nat→List Bra→Bool→PS→Option (List Bra × PS)
 | 0,_,_,_=>none
 | n + 1, acc, again, s =>
  if again=true∧s.c=0 then (B L n lv s).bind fun q=>branL B L lv n (acc++[q.1]) (isP L q.2 tSlash) (takeS L q.2 tSlash)
  else some (acc,s)
mutual
def stmtP (B:BrP)(L:List Tk):Nat→Int→PS→Option (Stm × PS)
 | 0,_,_=>none
 | n + 1, lv, s =>
  if (tok L s.p).kind=1 then namedP L n lv s
  else if isP L s tSkip=true then some (.mk 1 (tok L s.p).at_ ByteArray.empty [] [] [] [] [],s.on)
  else if isP L s tIf=true then
   (xP L n (.row 1 lv) s.on).bind fun x=>(blockP B L n tThen lv x.2).bind fun b =>
    if isP L b.2 tElse=true then (blockP B L n tElse lv b.2).map fun c=>(.mk 4 (tok L s.p).at_ ByteArray.empty [x.1] b.1 c.1 [] [],mustS L c.2 tFi)
    else some (.mk 4 (tok L s.p).at_ ByteArray.empty [x.1] b.1 [] [] [],mustS L b.2 tFi)
  else if isP L s tWhile=true then
   (xP L n (.row 1 lv) s.on).bind fun x=>(blockP B L n tDo lv x.2).map fun b=>(.mk 5 (tok L s.p).at_ ByteArray.empty [x.1] b.1 [] [] [],mustS L b.2 tOd)
  else if isP L s tCobegin=true then
   (branL B L lv n [] true s.on).map fun q=>(.mk 7 (tok L s.p).at_ ByteArray.empty [] [] [] q.1 [],mustS L q.2 tCoend)
  else if isP L s (b1 80)=true∨isP L s (b1 86)=true then
   some (.mk (if isP L s (b1 86)=true then 9 else 8) (tok L s.p).at_ (nameP L (mustS L s.on (b1 40))).name [] [] [] [] [],mustS L (nameS L (mustS L s.on (b1 40))) (b1 41))
  else if isP L s tRegion=true then
   if isP L (nameS L s.on) tWhen=true then
    (xP L n (.row 1 lv) (nameS L s.on).on).bind fun x=>(blockP B L n tDo lv x.2).map fun b=>(.mk 10 (tok L s.p).at_ (nameP L s.on).name [x.1] b.1 [] [] [],mustS L b.2 tOd)
   else (blockP B L n tDo lv (nameS L s.on)).map fun b=>(.mk 10 (tok L s.p).at_ (nameP L s.on).name [] b.1 [] [] [],mustS L b.2 tOd)
  else if isP L s tRequest=true then
   (itemsL L n [] true s.on).map fun q=>(.mk 11 (tok L s.p).at_ ByteArray.empty [] [] [] [] q.1,q.2)
  else if isP L s tRelease=true then
   (itemsL L n [] true s.on).map fun q=>(.mk 12 (tok L s.p).at_ ByteArray.empty [] [] [] [] q.1,q.2)
  else if isP L s tRead=true then
   if isP L (nameS L s.on) (b1 91)=true then
    (xP L n (.index lv) (nameS L s.on)).map fun x=>(.mk 14 (tok L s.p).at_ (nameP L s.on).name [x.1] [] [] [] [],x.2)
   else some (.mk 13 (tok L s.p).at_ (nameP L s.on).name [] [] [] [] [],nameS L s.on)
  else if isP L s tWrite=true then
   (xP L n (.row 1 lv) s.on).map fun x=>(.mk 15 (tok L s.p).at_ ByteArray.empty [x.1] [] [] [] [],x.2)
  else some (.mk 0 (tok L s.p).at_ ByteArray.empty [] [] [] [] [],faultS L s 14)
def stmtsL (B:BrP)(L:List Tk):Nat→Int→List Stm→Bool→PS→Option (List Stm × PS)
 | 0,_,_,_,_=>none
 | n + 1, lv, acc, again, s =>
  if again=true∧s.c=0 then (stmtP B L n lv s).bind fun q=>stmtsL B L n lv (acc++[q.1]) (isP L q.2 tSemi) (takeS L q.2 tSemi)
  else some (acc,s)
def blockP (B:BrP)(L:List Tk):Nat→ByteArray→Int→PS→Option (List Stm × PS)
 | 0,_,_,_=>none
 | n + 1, o, lv, s =>
  if isP L s o=false then some ([],faultS L s 14)
  else if (opensS L s (lv+1)).c≠0 then some ([],opensS L s (lv+1))
  else stmtsL B L n (lv+1) [] true (opensS L s (lv+1)).on
end
end Go.Vm.Parse
namespace Go.Vm.Parse
open Go Go.Proofs
attribute [local simp] repCells_succ writeAt rd_Fr toList_beq gpe gpn spe gse gsn ne_r0 ne_l0 le_s0 ne_r1 ne_l1 lt_s1 le_s1 ne_r2 ne_l2 lt_s2 le_s2 ne_r3 ne_l3 lt_s3 le_s3 ne_r4 ne_l4 lt_s4 le_s4 ne_r5 ne_l5 lt_s5 le_s5 ne_r6 ne_l6 lt_s6 le_s6 ne_r7 ne_l7 lt_s7 le_s7
def RetR {α:Type}(ρ:Rep α)(H:Heap)(r lid:Nat)(L:List Tk)(a:α)(s:PS)(o:Out)(H':Heap):Prop :=
 ∃ cs,o = .val (.agg ⟨cs⟩)∧Same (·=r) H H'∧RD H' r lid L s∧ρ.R H' (fun i=>H.n≤i) a cs
structure At (H:Heap)(r lid:Nat)(L:List Tk)(s:PS)(K:Heap):Prop where
 same:Same (·=r) H K
 rd:RD K r lid L s
theorem At.n {H K:Heap}{r lid:Nat}{L:List Tk}{s:PS}(h:At H r lid L s K):H.n≤K.n:=h.same.n
theorem At.push {H K:Heap}{r lid:Nat}{L:List Tk}{s:PS}(h:At H r lid L s K)(o:AObj):At H r lid L s (K.push o):=⟨h.same.then_push o,h.rd.same (Same.push _ _ o)⟩
theorem At.go {H K K':Heap}{r lid:Nat}{L:List Tk}{s s':PS}(h:At H r lid L s K)(k:Same (·=r) K K')(h':RD K' r lid L s'):At H r lid L s' K':=⟨h.same.trans k,h'⟩
theorem At.set {H K:Heap}{r lid:Nat}{L:List Tk}{s:PS}(h:At H r lid L s K)(hr:r<H.n)(hl:lid<H.n){i:Nat}(hi:H.n≤i)(hk:i<K.n)(o:AObj):At H r lid L s (K.set i o) :=
 ⟨h.same.then_set hk (.inr hi) o,h.rd.keep (Same.set (X:=fun j=>j=i) K hk rfl o) (by omega) (by omega)⟩
theorem At.on {H K:Heap}{r lid:Nat}{L:List Tk}{s:PS}(h:At H r lid L s K)(hp:s.p<L.length) :
  At H r lid L s.on (K.set r (.row true 0 1 [.slice (some ⟨lid,0,none⟩) L.length L.length,.int .i64 (s.p+1),.int .i64 s.c,.int .i64 s.a])):=by
 obtain⟨k,d⟩:=h.rd.on2 h.same hp
 exact⟨k,d⟩
theorem _root_.Go.Vm.Rep.G_set {α:Type}(ρ:Rep α){K:Heap}{S S':Nat→Prop}{v:Value}{l:List α}(h:ρ.G K S v l){i:Nat}(hi:i<K.n)(hs:∀ j,S j→S' j∧j≠i)(o:AObj):ρ.G (K.set i o) S' v l :=
 ρ.G_move (Same.set (X:=fun j=>j=i) K hi rfl o) (fun j hj _=>hs j hj) h
theorem tf_stm:TF Tryz.prog 27 8:=⟨_,_,_,by simp,by simp,by simp;rfl,by omega,by simp;rfl,rfl,by omega,rfl⟩
theorem tf_bra:TF Tryz.prog 73 4:=⟨_,_,_,by simp,by simp,by simp;rfl,by omega,by simp;rfl,rfl,by omega,rfl⟩
theorem pl_named:planOf Tryz.prog (drawN Tryz.f76 0)=some [(some (0,2)),(some (0,2)),none,none,none,none,none,none,none]:=by decide +kernel
def z8:List Value:=[.int .i64 0,.int .i64 0,.string ByteArray.empty,.slice none 0 0,.slice none 0 0,.slice none 0 0,.slice none 0 0,.slice none 0 0]
def sOf (kind at_:Int)(name:ByteArray)(e:Value):List Value:=[.int .i64 kind,.int .i64 at_,.string name,e,.slice none 0 0,.slice none 0 0,.slice none 0 0,.slice none 0 0]
theorem ret_rep {α:Type}(ρ:Rep α){H K:Heap}{r lid:Nat}{L:List Tk}{s':PS}{z:AObj}(hr:r<H.n)(hl:lid<H.n)(h:At (H.push z) r lid L s' K){a:α}{cs:List Value}(ha:ρ.R K (fun i=>H.n+1≤i) a cs)(o:AObj) :
  RetR ρ H r lid L a s' (.val (.agg ⟨cs⟩)) (K.set H.n o):=by
 have hn:=h.n
 simp at hn
 have ks:Same (fun i=>i=H.n) K (K.set H.n o):=Same.set (X:=fun i=>i=H.n) K (by omega) rfl o
 exact⟨cs,rfl,(Same.push _ _ _).trans h.same |>.then ks (fun i hi => .inr (by omega)),h.rd.keep ks (by omega) (by omega),ρ.move ks (fun i hi hlt=>⟨by omega,by omega⟩) _ _ ha⟩
section
variable {E:Hooks} (hE:Plain E) {r lid:Nat} {L:List Tk}
include hE
theorem named_run {n:Nat}{lv:Int}(h0:0≤lv)(h24:lv≤24){s s':PS}{x:Stm}(hx:namedP L n lv s=some (x,s')){H:Heap}(h:RD H r lid L s):Gives ((run Tryz.prog E).call 76 [.pointer (some ⟨r,0,none⟩),.int .i64 lv] H) (RetR repStm H r lid L x s'):=by
 have hr:=h.lt
 have hl:=h.lid_lt
 have hsm:=h.small
 have aP:At (H.push (.row true 0 1 z8)) r lid L s (H.push (.row true 0 1 z8)):=⟨Same.refl _ _,h.same (Same.push _ _ _)⟩
 obtain⟨HA,eA,kA,hA⟩:=name_run hE aP.rd
 have aA:=aP.go kA hA
 have nA:=kA.n
 simp at nA
 have aB:=(aA.push (.row true 0 1 (nameP L s).cells)).push (.row true 0 1 (sOf 0 (nameP L s).at_ (nameP L s).name (.slice none 0 0)))
 obtain⟨HB,eB,kB⟩:=is_run hE aB.rd (b1 40)
 have aC:=aB.go (Same.none kB) (aB.rd.same kB)
 have nB:=kB.n
 simp at nB
 have gB:HB.get (HA.n+1) = .row true 0 1 (sOf 0 (nameP L s).at_ (nameP L s).name (.slice none 0 0)):=kB.at (Heap.get_push_self _ _) (by simp) (fun h=>h)
 rw[c_named hE,callB,bodyOf]
 simp only[z8,Idn.cells,sOf,b1]at eA eB gB
 unfold namedP at hx
 by_cases c1:isP L (nameS L s) (b1 40)=true
 · rw[if_pos c1]at hx
   simp only[Option.map_eq_some_iff]at hx
   obtain⟨⟨l1,s1⟩,hx1,hx2⟩:=hx
   cases hx2
   have hC:=aC.set (by simp;omega) (by simp;omega) (i:=HA.n+1) (by simp;omega) (by omega) (.row true 0 1 (sOf 6 (nameP L s).at_ (nameP L s).name (.slice none 0 0)))
   obtain⟨o,HC,eC,v,rfl,kC,hCr,gC⟩:=args_run hE h0 h24 hx1 hC.rd
   have aD:=hC.go kC hCr
   have nC:=kC.n
   simp at nC
   have gC1:HC.get (HA.n+1) = .row true 0 1 (sOf 6 (nameP L s).at_ (nameP L s).name (.slice none 0 0)):=kC.at (Heap.get_set_self _ _ (by omega)) (by simp) (by omega)
   obtain⟨b,rfl⟩:=repEx.G_slice gC
   simp only[b1]at c1
   simp only[sOf]at eC gC1
   have hlt:HA.n+1<HC.n:=by omega
   have hlt2:H.n<HC.n:=by omega
   have gH:HC.get H.n = .row true 0 1 z8:=aD.same.at (Heap.get_push_self _ _) (by simp) (by omega)
   simp only[z8]at gH
   simp[Tryz.f76,eA,eB,gB,c1,eC,gC1,hlt,hlt2,gH,show ¬H.n=HA.n+1 by omega,show ¬HA.n+1=H.n by omega]
   have hs:=aD.set (i:=HA.n+1) (by simp;omega) (by simp;omega) (by simp;omega) (by omega) (.row true 0 1 (sOf 6 (nameP L s).at_ (nameP L s).name (.slice b l1.length l1.length)))
   refine ret_rep repStm hr hl hs ?_ _
   exact RS.put (repEx.G_set gC (by omega) (fun j hj=>⟨by simp at hj;omega,by simp at hj;omega⟩) _) (repStm.G_nil _ _) (repStm.G_nil _ _) (repBra.G_nil _ _) (repItm.G_nil _ _)
 rw[if_neg c1]at hx
 have c1':isP L (nameS L s) (b1 40)=false:=by simpa using c1
 have hC:=aC.set (by simp;omega) (by simp;omega) (i:=HA.n+1) (by simp;omega) (by omega) (.row true 0 1 (sOf 2 (nameP L s).at_ (nameP L s).name (.slice none 0 0)))
 obtain⟨HD,eD,kD⟩:=is_run hE hC.rd (b1 91)
 have aD:=hC.go (Same.none kD) (hC.rd.same kD)
 have nD:=kD.n
 simp at nD
 have gD:HD.get (HA.n+1) = .row true 0 1 (sOf 2 (nameP L s).at_ (nameP L s).name (.slice none 0 0)):=kD.at (Heap.get_set_self _ _ (by omega)) (by simp) (fun h=>h)
 have tail:∀ (K:Heap) (kind:Int) (v:Value) (l:List Ex) (s2 s1:PS) (x1:Ex),l.length≤1→At (H.push (.row true 0 1 z8)) r lid L s2 K→K.get (HA.n+1) = .row true 0 1 (sOf kind (nameP L s).at_ (nameP L s).name v) →
   repEx.G K (fun i=>HB.n≤i) v l→HB.n≤K.n→xP L n (.row 1 lv) (mustS L s2 tSet)=some (x1,s1) →
   ∃ HF HG b m b' HI a1 a2 a3 a4 a5 a6,(run Tryz.prog E).call 26 [.pointer (some ⟨r,0,none⟩),.string tSet] K=some (.val (.tuple #[]),HF)∧v = .slice b m m ∧
    HF.get (HA.n+1) = .row true 0 1 (sOf kind (nameP L s).at_ (nameP L s).name (.slice b m m)) ∧
    (run Tryz.prog E).call 77 [.pointer (some ⟨r,0,none⟩),.int .i64 1,.int .i64 lv] HF=some (.val (.agg ⟨[.int .i64 a1,.int .i64 a2,.int .i64 a3,.int .i64 a4,.string a5,a6]⟩),HG)∧isTuple a6=false ∧
    HG.get (HA.n+1) = .row true 0 1 (sOf kind (nameP L s).at_ (nameP L s).name (.slice b m m))∧HG.n ≥ HF.n∧HA.n+1<HF.n ∧
    exAppend Tryz.prog [51,51] (.slice b m m) (.slice (some ⟨HG.n,0,none⟩) 1 1) (HG.push (.row true 0 6 [.int .i64 a1,.int .i64 a2,.int .i64 a3,.int .i64 a4,.string a5,a6]))=some (.slice b' (l.length+1) (l.length+1),HI) ∧
    HI.get (HA.n+1) = .row true 0 1 (sOf kind (nameP L s).at_ (nameP L s).name (.slice b m m))∧HA.n+1<HI.n ∧
    HI.get H.n = .row true 0 1 z8∧At (H.push (.row true 0 1 z8)) r lid L s1 HI∧repEx.G HI (fun i=>HB.n≤i) (.slice b' (l.length+1) (l.length+1)) (l++[x1]):=by
  intro K kind v l s2 s1 x1 hl1 aK gK hG hBK hxr
  obtain⟨HF,eF,kF,hF⟩:=must_run hE aK.rd tSet
  obtain⟨o,HG,eG,cs,rfl,kG,hG2,rG⟩:=(x_all hE n).1 _ _ _ _ _ hxr (by omega) (by omega) h0 h24 _ hF
  obtain⟨a1,a2,a3,a4,a5,a6,rfl,h6,_⟩:=rG.six
  have nF:=kF.n
  have nG:=kG.n
  obtain⟨b,rfl⟩:=repEx.G_slice hG
  have gF:=kF.at gK (by simp) (by omega)
  have gG:=kG.at gF (by simp) (by omega)
  have hGv:repEx.G HG (fun i=>HB.n≤i) (.slice b l.length l.length) l:=repEx.G_move (kF.trans kG) (fun i hi _=>⟨hi,by omega⟩) hG
  have hvr:∀ i,vid (.slice b l.length l.length) i→i<HG.n∧HB.n≤i:=fun i hi=>repEx.G_lt hGv hi
  have hvk:∀ i,vid (.slice b l.length l.length) i→i<K.n:=fun i hi=>(repEx.G_lt hG hi).1
  obtain⟨v',HI,eI,gI,kI⟩:=repEx.G_app tf_ex hGv (fun i hi=>by omega) (by omega) (a:=x1) (c:=[.int .i64 a1,.int .i64 a2,.int .i64 a3,.int .i64 a4,.string a5,a6]) (RE.move (Same.refl (fun _=>False) _) (fun i hi _=>⟨⟨by omega,fun e=>by have:=hvk _ e;omega⟩,fun h=>h⟩) _ _ rG)
  obtain⟨b',rfl⟩:=repEx.G_slice gI
  have nI:=kI.n
  have aG:=(aK.go kF hF).go kG hG2
  have aI:At (H.push (.row true 0 1 z8)) r lid L s1 HI:=⟨aG.same.then kI (fun i hi => .inr (by have:=hvr _ hi;simp;omega)),aG.rd.keep kI (fun hi=>by have:=hvr _ hi;omega) (fun hi=>by have:=hvr _ hi;omega)⟩
  have nI':=aI.n
  simp only[List.length_append,List.length_cons,List.length_nil,Nat.zero_add]at eI gI
  exact⟨HF,HG,b,l.length,b',HI,a1,a2,a3,a4,a5,a6,eF,rfl,gF,eG,h6,gG,nG,by omega,eI,kI.at gG (by simp) (fun hi=>by have:=hvr _ hi;omega),by omega,aI.same.at (Heap.get_push_self _ _) (by simp) (by omega),aI,gI⟩
 by_cases c2:isP L (nameS L s) (b1 91)=true
 · rw[if_pos c2]at hx
   simp only[Option.bind_eq_some_iff,Option.map_eq_some_iff]at hx
   obtain⟨⟨i1,s1⟩,hx1,⟨x1,s2⟩,hx2,hx3⟩:=hx
   cases hx3
   have hE2:=aD.set (by simp;omega) (by simp;omega) (i:=HA.n+1) (by simp;omega) (by omega) (.row true 0 1 (sOf 3 (nameP L s).at_ (nameP L s).name (.slice none 0 0)))
   obtain⟨o,HE,eE,cs,rfl,kE,hEr,rE⟩:=(x_all hE n).2.2 _ _ _ _ hx1 h0 h24 _ hE2.rd
   obtain⟨i1',i2,i3,i4,i5,i6,rfl,hi6,_⟩:=rE.six
   have aE:=hE2.go kE hEr
   have nE:=kE.n
   simp at nE
   have gE:HE.get (HA.n+1) = .row true 0 1 (sOf 3 (nameP L s).at_ (nameP L s).name (.slice none 0 0)):=kE.at (Heap.get_set_self _ _ (by omega)) (by simp) (by omega)
   have gv:=repEx.G_one rE (fun j hj hl=>⟨hj,by omega⟩) (by simp;omega)
   have aX:=(aE.push (.row true 0 6 [.int .i64 i1',.int .i64 i2,.int .i64 i3,.int .i64 i4,.string i5,i6])).set (by simp;omega) (by simp;omega) (i:=HA.n+1) (by simp;omega) (by simp;omega) (.row true 0 1 (sOf 3 (nameP L s).at_ (nameP L s).name (.slice (some ⟨HE.n,0,none⟩) 1 1)))
   obtain⟨HF,HG,b,m,b',HI,a1,a2,a3,a4,a5,a6,eF,ev,gF,eG,h6,gG,nG,nF,eI,gI,nI,gI0,aI,rI⟩:=tail _ 3 _ [i1] _ _ _ (by simp) aX (Heap.get_set_self _ _ (by simp;omega)) (repEx.G_set gv (by simp;omega) (fun j hj=>⟨by simp at hj;omega,by simp at hj;omega⟩) _) (by simp;omega) hx2
   cases ev
   have nI':=aI.n
   simp at nI'
   simp only[b1]at c1' c2 eD
   simp only[sOf,tSet,z8]at eD gD eE gE eF gF gG gI gI0
   have q1:HA.n+1<HD.n:=by omega
   have q2:HA.n+1<HE.n:=by omega
   have q3:HA.n+1<HG.n:=by omega
   have q4:H.n<HI.n:=by omega
   simp[Tryz.f76,eA,eB,gB,c1',eD,gD,c2,eE,hi6,gE,eF,q1,q2]
   refine region_plan (by exact pl_named) ?_
   simp[eG,h6,gF,gG,eI,gI,gI0,q3,q4,nI,show ¬H.n=HA.n+1 by omega,show ¬HA.n+1=H.n by omega]
   have hs:=aI.set (i:=HA.n+1) (by simp;omega) (by simp;omega) (by simp;omega) (by omega) (.row true 0 1 (sOf 3 (nameP L s).at_ (nameP L s).name (.slice b' 2 2)))
   refine ret_rep repStm hr hl hs ?_ _
   exact RS.put (repEx.G_set rI (by omega) (fun j hj=>⟨by omega,by omega⟩) _) (repStm.G_nil _ _) (repStm.G_nil _ _) (repBra.G_nil _ _) (repItm.G_nil _ _)
 · rw[if_neg c2]at hx
   have c2':isP L (nameS L s) (b1 91)=false:=by simpa using c2
   simp only[Option.map_eq_some_iff]at hx
   obtain⟨⟨x1,s2⟩,hx2,hx3⟩:=hx
   cases hx3
   obtain⟨HF,HG,b,m,b',HI,a1,a2,a3,a4,a5,a6,eF,ev,gF,eG,h6,gG,nG,nF,eI,gI,nI,gI0,aI,rI⟩:=tail _ 2 _ [] _ _ _ (by simp) aD gD (repEx.G_nil _ _) (by omega) hx2
   cases ev
   have nI':=aI.n
   simp at nI'
   simp only[b1]at c1' c2' eD
   simp only[sOf,tSet,z8]at eD gD eF gF gG gI gI0
   have q1:HA.n+1<HD.n:=by omega
   have q3:HA.n+1<HG.n:=by omega
   have q4:H.n<HI.n:=by omega
   simp[Tryz.f76,eA,eB,gB,c1',eD,gD,c2',eF,q1]
   refine region_plan (by exact pl_named) ?_
   simp at eI
   simp[eG,h6,gF,gG,eI,gI,gI0,q3,q4,nI,show ¬H.n=HA.n+1 by omega,show ¬HA.n+1=H.n by omega]
   have hs:=aI.set (i:=HA.n+1) (by simp;omega) (by simp;omega) (by simp;omega) (by omega) (.row true 0 1 (sOf 2 (nameP L s).at_ (nameP L s).name (.slice b' 1 1)))
   refine ret_rep repStm hr hl hs ?_ _
   exact RS.put (repEx.G_set rI (by omega) (fun j hj=>⟨by omega,by omega⟩) _) (repStm.G_nil _ _) (repStm.G_nil _ _) (repBra.G_nil _ _) (repItm.G_nil _ _)
end
end Go.Vm.Parse
namespace Go.Vm.Parse
open Go Go.Proofs
structure PS.lt (s s':PS):Prop where
 le:s.le s'
 on:s'.c=0→s.p<s'.p
theorem PS.lt_on (s:PS):s.lt s.on:=⟨PS.le_on s,fun _=>Nat.lt_succ_self _⟩
theorem PS.lt.le_trans {a b c:PS}(h:a.lt b)(k:b.le c):a.lt c:=⟨h.le.le_trans k,fun e=>Nat.lt_of_lt_of_le (h.on (k.code e)) k.place⟩
theorem fault_lt (L:List Tk)(s:PS){c:Int}(hc:c≠0):s.lt (faultS L s c):=⟨(faultS_le L s hc).1,fun h=>absurd h (faultS_le L s hc).2⟩
theorem name_lt (L:List Tk)(s:PS):s.lt (nameS L s):=⟨(nameS_le L s).1,(nameS_le L s).2⟩
variable {L:List Tk}
theorem x_lt {n:Nat}{cmd:XC}{s s':PS}{e:Ex}(h:xP L n cmd s=some (e,s'))(hc:cmd.isLoop=false:=by rfl):s.lt s':=⟨(x_le L n cmd s e s' h).1,(x_le L n cmd s e s' h).2 hc⟩
theorem argsL_le {lv:Int}:∀ {n:Nat}{acc:List Ex}{again:Bool}{s s':PS}{l:List Ex},argsL L lv n acc again s=some (l,s')→s.le s'
 | 0,_,_,_,_,_,h=>by cases h
 | n + 1, acc, again, s, s', l, h => by
  rw[argsL]at h
  split at h
  · simp only[Option.bind_eq_some_iff]at h
    obtain⟨⟨x,s1⟩,h1,h2⟩:=h
    exact ((x_lt h1).le.le_trans (takeS_le _ _ _)).le_trans (argsL_le h2)
  · cases h;exact PS.le_refl _
theorem argsP_le {n:Nat}{lv:Int}{s s':PS}{l:List Ex}(h:argsP L n lv s=some (l,s')):s.le s':=by
 unfold argsP at h
 split at h
 · cases h;exact (mustS_le _ _ _).le_trans (PS.le_on _)
 · simp only[Option.map_eq_some_iff]at h
   obtain⟨⟨x,s1⟩,h1,h2⟩:=h
   cases h2
   exact ((mustS_le _ _ _).le_trans (argsL_le h1)).le_trans (mustS_le _ _ _)
theorem itemsL_le:∀ {n:Nat}{acc:List Itm}{again:Bool}{s s':PS}{l:List Itm},itemsL L n acc again s=some (l,s')→s.le s'
 | 0,_,_,_,_,_,h=>by cases h
 | n + 1, acc, again, s, s', l, h => by
  rw[itemsL]at h
  split at h
  · exact (((nameS_le L s).1.le_trans (numS_le _ _)).le_trans (takeS_le _ _ _)).le_trans (itemsL_le h)
  · cases h;exact PS.le_refl _
theorem namedP_lt {n:Nat}{lv:Int}{s s':PS}{x:Stm}(h:namedP L n lv s=some (x,s')):s.lt s':=by
 unfold namedP at h
 split at h
 · simp only[Option.map_eq_some_iff]at h
   obtain⟨⟨x,s1⟩,h1,h2⟩:=h
   cases h2
   exact (name_lt L s).le_trans (argsP_le h1)
 · split at h
   · simp only[Option.bind_eq_some_iff,Option.map_eq_some_iff]at h
     obtain⟨⟨i,s1⟩,h1,⟨x,s2⟩,h2,h3⟩:=h
     cases h3
     exact (name_lt L s).le_trans (((x_lt h1).le.le_trans (mustS_le _ _ _)).le_trans (x_lt h2).le)
   · simp only[Option.map_eq_some_iff]at h
     obtain⟨⟨x,s2⟩,h2,h3⟩:=h
     cases h3
     exact (name_lt L s).le_trans ((mustS_le _ _ _).le_trans (x_lt h2).le)
theorem branP_lt {n:Nat}{lv:Int}{s s':PS}{b:Bra}(h:branP L n lv s=some (b,s')):s.lt s':=by
 unfold branP at h
 simp only[Option.bind_eq_some_iff]at h
 obtain⟨⟨a,s1⟩,h1,h2⟩:=h
 have h0:=(name_lt L s).le_trans (argsP_le h1)
 split at h2
 · simp only[Option.map_eq_some_iff]at h2
   obtain⟨⟨x,s2⟩,h3,h4⟩:=h2
   cases h4
   exact h0.le_trans ((PS.le_on _).le_trans (itemsL_le h3))
 · cases h2;exact h0
def BLt (B:BrP)(L:List Tk):Prop:=∀ n lv s b s',B L n lv s=some (b,s')→s.lt s'
theorem branL_le {B:BrP}(hB:BLt B L){lv:Int}:∀ {n:Nat}{acc:List Bra}{again:Bool}{s s':PS}{l:List Bra},branL B L lv n acc again s=some (l,s')→s.le s'
 | 0,_,_,_,_,_,h=>by cases h
 | n + 1, acc, again, s, s', l, h => by
  rw[branL]at h
  split at h
  · simp only[Option.bind_eq_some_iff]at h
    obtain⟨⟨x,s1⟩,h1,h2⟩:=h
    exact ((hB _ _ _ _ _ h1).le.le_trans (takeS_le _ _ _)).le_trans (branL_le hB h2)
  · cases h;exact PS.le_refl _
theorem st_le {B:BrP}(hB:BLt B L):∀ n,(∀ lv s x s',stmtP B L n lv s=some (x,s')→s.lt s')∧(∀ lv acc again s l s',stmtsL B L n lv acc again s=some (l,s')→s.le s')∧(∀ o lv s l s',blockP B L n o lv s=some (l,s')→s.le s'):=by
 intro n
 induction n with
 | zero=>exact⟨fun _ _ _ _ h=>(by rw[stmtP]at h;cases h),fun _ _ _ _ _ _ h=>(by rw[stmtsL]at h;cases h),fun _ _ _ _ _ h=>(by rw[blockP]at h;cases h)⟩
 | succ n ih =>
  refine⟨?_,?_,?_⟩
  · intro lv s x s' h
    have on:s.lt s.on:=PS.lt_on s
    rw[stmtP]at h
    by_cases c1:(tok L s.p).kind=1
    · rw[if_pos c1]at h;exact namedP_lt h
    rw[if_neg c1]at h
    by_cases c2:isP L s tSkip=true
    · rw[if_pos c2]at h;cases h;exact on
    rw[if_neg c2]at h
    by_cases c3:isP L s tIf=true
    · rw[if_pos c3]at h
      simp only[Option.bind_eq_some_iff]at h
      obtain⟨⟨x1,s1⟩,h1,⟨b1,s2⟩,h2,h3⟩:=h
      have k:=on.le_trans ((x_lt h1).le.le_trans (ih.2.2 _ _ _ _ _ h2))
      split at h3
      · simp only[Option.map_eq_some_iff]at h3
        obtain⟨⟨c1,s3⟩,h3,h4⟩:=h3
        cases h4
        exact (k.le_trans (ih.2.2 _ _ _ _ _ h3)).le_trans (mustS_le _ _ _)
      · cases h3;exact k.le_trans (mustS_le _ _ _)
    rw[if_neg c3]at h
    by_cases c4:isP L s tWhile=true
    · rw[if_pos c4]at h
      simp only[Option.bind_eq_some_iff,Option.map_eq_some_iff]at h
      obtain⟨⟨x1,s1⟩,h1,⟨b1,s2⟩,h2,h3⟩:=h
      cases h3
      exact (on.le_trans ((x_lt h1).le.le_trans (ih.2.2 _ _ _ _ _ h2))).le_trans (mustS_le _ _ _)
    rw[if_neg c4]at h
    by_cases c5:isP L s tCobegin=true
    · rw[if_pos c5]at h
      simp only[Option.map_eq_some_iff]at h
      obtain⟨⟨b1,s2⟩,h2,h3⟩:=h
      cases h3
      exact (on.le_trans (branL_le hB h2)).le_trans (mustS_le _ _ _)
    rw[if_neg c5]at h
    by_cases c6:isP L s (b1 80)=true∨isP L s (b1 86)=true
    · rw[if_pos c6]at h
      cases h
      exact ((on.le_trans (mustS_le _ _ _)).le_trans (nameS_le _ _).1).le_trans (mustS_le _ _ _)
    rw[if_neg c6]at h
    by_cases c7:isP L s tRegion=true
    · rw[if_pos c7]at h
      have k:=on.le_trans (nameS_le L s.on).1
      split at h
      · simp only[Option.bind_eq_some_iff,Option.map_eq_some_iff]at h
        obtain⟨⟨x1,s1⟩,h1,⟨b1,s2⟩,h2,h3⟩:=h
        cases h3
        exact (k.le_trans ((PS.le_on _).le_trans ((x_lt h1).le.le_trans (ih.2.2 _ _ _ _ _ h2)))).le_trans (mustS_le _ _ _)
      · simp only[Option.map_eq_some_iff]at h
        obtain⟨⟨b1,s2⟩,h2,h3⟩:=h
        cases h3
        exact (k.le_trans (ih.2.2 _ _ _ _ _ h2)).le_trans (mustS_le _ _ _)
    rw[if_neg c7]at h
    by_cases c8:isP L s tRequest=true
    · rw[if_pos c8]at h
      simp only[Option.map_eq_some_iff]at h
      obtain⟨⟨b1,s2⟩,h2,h3⟩:=h
      cases h3
      exact on.le_trans (itemsL_le h2)
    rw[if_neg c8]at h
    by_cases c9:isP L s tRelease=true
    · rw[if_pos c9]at h
      simp only[Option.map_eq_some_iff]at h
      obtain⟨⟨b1,s2⟩,h2,h3⟩:=h
      cases h3
      exact on.le_trans (itemsL_le h2)
    rw[if_neg c9]at h
    by_cases c10:isP L s tRead=true
    · rw[if_pos c10]at h
      have k:=on.le_trans (nameS_le L s.on).1
      split at h
      · simp only[Option.map_eq_some_iff]at h
        obtain⟨⟨b1,s2⟩,h2,h3⟩:=h
        cases h3
        exact k.le_trans (x_lt h2).le
      · cases h;exact k
    rw[if_neg c10]at h
    by_cases c11:isP L s tWrite=true
    · rw[if_pos c11]at h
      simp only[Option.map_eq_some_iff]at h
      obtain⟨⟨b1,s2⟩,h2,h3⟩:=h
      cases h3
      exact on.le_trans (x_lt h2).le
    rw[if_neg c11]at h
    cases h;exact fault_lt L s (by omega)
  · intro lv acc again s l s' h
    rw[stmtsL]at h
    split at h
    · simp only[Option.bind_eq_some_iff]at h
      obtain⟨⟨x,s1⟩,h1,h2⟩:=h
      exact ((ih.1 _ _ _ _ h1).le.le_trans (takeS_le _ _ _)).le_trans (ih.2.1 _ _ _ _ _ _ h2)
    · cases h;exact PS.le_refl _
  · intro o lv s l s' h
    rw[blockP]at h
    split at h
    · cases h;exact (fault_lt L s (by omega)).le
    · split at h
      · cases h;exact opensS_le _ _ _
      · exact ((opensS_le _ _ _).le_trans (PS.le_on _)).le_trans (ih.2.1 _ _ _ _ _ _ h)
end Go.Vm.Parse
namespace Go.Vm.Parse
open Go Go.Proofs
attribute [local simp] repCells_succ writeAt rd_Fr toList_beq gpe gpn spe gse gsn ne_r0 ne_l0 le_s0 ne_r1 ne_l1 lt_s1 le_s1 ne_r2 ne_l2 lt_s2 le_s2 ne_r3 ne_l3 lt_s3 le_s3 ne_r4 ne_l4 lt_s4 le_s4 ne_r5 ne_l5 lt_s5 le_s5 ne_r6 ne_l6 lt_s6 le_s6 ne_r7 ne_l7 lt_s7 le_s7
section
variable (E:Hooks) (B:BrP) (r lid:Nat) (L:List Tk)
def StmtOK (n:Nat):Prop:=∀ lv s x s',stmtP B L n lv s=some (x,s')→0≤lv→lv≤24→∀ H,RD H r lid L s →
 Gives ((run Tryz.prog E).call 64 [.pointer (some ⟨r,0,none⟩),.int .i64 lv] H) (RetR repStm H r lid L x s')
def StmtsOK (n:Nat):Prop:=∀ lv s l s',stmtsL B L n lv [] true s=some (l,s')→0≤lv→lv≤24→∀ H,RD H r lid L s →
 Gives ((run Tryz.prog E).call 32 [.pointer (some ⟨r,0,none⟩),.int .i64 lv] H) (RetG repStm H r lid L l s')
def BlockOK (n:Nat):Prop:=∀ o lv s l s',blockP B L n o lv s=some (l,s')→0≤lv→lv≤24→∀ H,RD H r lid L s →
 Gives ((run Tryz.prog E).call 78 [.pointer (some ⟨r,0,none⟩),.string o,.int .i64 lv] H) (RetG repStm H r lid L l s')
def BranOK:Prop:=∀ n lv s b s',B L n lv s=some (b,s')→0≤lv→lv≤24→∀ H,RD H r lid L s →
 Gives ((run Tryz.prog E).call 79 [.pointer (some ⟨r,0,none⟩),.int .i64 lv] H) (RetR repBra H r lid L b s')
end
def StmtsI (B:BrP)(r lid:Nat)(L:List Tk)(lv:Int)(H:Heap)(res:List Stm)(s':PS)(n m:Nat)(t:List Value)(H':Heap):Prop :=
 m≤n∧∃ acc again s v,stmtsL B L m lv acc again s=some (res,s')∧rd t 6 = .bool again∧rd t 5=v∧repStm.G H' (fun i=>H.n≤i) v acc∧RD H' r lid L s∧Same (·=r) H H'∧(s.c=0→acc.length≤s.p)
section
variable {E:Hooks} (hE:Plain E) {B:BrP} {r lid:Nat} {L:List Tk}
include hE
theorem stmts_walk (hB:BLt B L){n:Nat}(ih:∀ m,m<n→StmtOK E B r lid L m):StmtsOK E B r lid L n:=by
 intro lv s l s' hx h0 h24 H h
 have hr:=h.lt
 have hl:=h.lid_lt
 have hsm:=h.small
 rw[c_stmts hE,callB,bodyOf]
 simp[Tryz.f32]
 refine loop_wp (StmtsI B r lid L lv H l s' n) n ?_ ?_
 · exact⟨Nat.le_refl n,[],true,_,.slice (some ⟨H.n,0,none⟩) 0 0,hx,by simp,by simp,repStm.G_empty H (Nat.le_refl _),h.same (Same.push _ _ _),Same.push _ _ _,fun _=>by simp⟩
 rintro m t H' hk ⟨hmn,acc,again,s2,v,hxl,g6,g5,hG,hR,hS,hlen⟩
 have ht:t.length=23:=hk.1.trans (by simp[len_Bs])
 have hh:=hk.all [0,1] (by decide +kernel)
 simp at hh
 obtain⟨t0,t1⟩:=hh
 have eb:=bad_run hE hR
 have nS:=hS.n
 cases m with
 | zero=>rw[stmtsL]at hxl;cases hxl
 | succ m =>
 rw[stmtsL]at hxl
 by_cases hg:again=true∧s2.c=0
 · rw[if_pos hg]at hxl
   obtain⟨rfl,hc⟩:=hg
   simp only[Option.bind_eq_some_iff]at hxl
   obtain⟨⟨x,s3⟩,hxa,hxb⟩:=hxl
   obtain⟨o,HC,eC,cs,rfl,kC,hC,rC⟩:=ih m (by omega) _ _ _ _ hxa h0 h24 _ hR
   have hvr:∀ i,vid v i→H.n≤i:=fun i hi=>(repStm.G_lt hG hi).2
   have hvl:∀ i,vid v i→i<H'.n:=fun i hi=>(repStm.G_lt hG hi).1
   have nC:=kC.n
   have hG2:=repStm.G_move kC (S':=fun i=>H.n≤i) (fun i hi _=>⟨hi,by omega⟩) hG
   have hmono:=(st_le hB m).1 _ _ _ _ hxa
   obtain⟨v',HD,eD,gD,kD⟩:=repStm.G_app tf_stm hG2 (fun i hi=>by omega) (by have:=hlen hc;have:=hR.place;omega) (a:=x) (c:=cs) (RS.move (Same.refl (fun _=>False) _) (fun i hi _=>⟨⟨by omega,fun e=>by have:=hvl _ e;omega⟩,fun h=>h⟩) _ _ rC)
   have hD:=hC.keep kD (fun hi=>by have:=hvr _ hi;omega) (fun hi=>by have:=hvr _ hi;omega)
   obtain⟨HE2,eE,kE,hE2⟩:=take_run hE hD tSemi
   have nD:=kD.n
   have kk:Same (·=r) H HD:=(hS.trans kC).then kD (fun i hi => .inr (hvr i hi))
   obtain⟨a1,a2,a3,b1,n1,c1,b2,n2,c2,b3,n3,c3,b4,n4,c4,b5,n5,c5,rfl⟩:=RS.eight rC
   simp only[tSemi]at eE
   simp only[repStm]at eD
   simp[ht,g6,g5,t0,t1,eb,hc,eC,eD,eE]
   refine⟨m,by omega,by omega,_,_,_,v',hxb,by simp[ht,tSemi],by simp[ht],repStm.G_move kE (fun i hi _=>⟨hi,by omega⟩) gD,hE2,kk.trans kE,fun e0 => ?_⟩
   have h1:=takeS_c L s3 tSemi
   have h2:=hmono.on (by rw[← h1.1];exact e0)
   have h4:=hlen hc
   simp
   omega
 · rw[if_neg hg]at hxl
   cases hxl
   by_cases ha:again=true
   · have hc:¬s'.c=0:=fun e=>hg ⟨ha,e⟩
     subst ha
     simp[ht,g6,g5,t0,t1,eb,hc]
     exact⟨v,rfl,hS,hR,hG⟩
   · have ha':again=false:=by simpa using ha
     subst ha'
     simp[ht,g6,g5,t0,t1]
     exact⟨v,rfl,hS,hR,hG⟩
theorem block_walk {n:Nat}(ih:StmtsOK E B r lid L n):BlockOK E B r lid L (n+1):=by
 intro o lv s l s' hx h0 h24 H h
 have hr:=h.lt
 have hsm:=h.small
 obtain⟨HA,eA,kA⟩:=is_run hE h o
 have hA:=h.same kA
 rw[c_block hE,callB,bodyOf]
 rw[blockP]at hx
 by_cases c1:isP L s o=false
 · rw[if_pos c1]at hx
   cases hx
   obtain⟨HB,eB,kB,hB⟩:=fault_run hE hA 14
   simp[Tryz.f78,eA,c1,eB]
   exact⟨_,rfl,(Same.none kA).trans kB,hB,repStm.G_nil _ _⟩
 rw[if_neg c1]at hx
 have c1':isP L s o=true:=by simpa using c1
 have hlt:=isP_lt c1'
 obtain⟨HB,eB,kB,hB⟩:=opens_run hE hA (lv+1)
 have kAB:Same (·=r) H HB:=(Same.none kA).trans kB
 have w1:=wrap64 (lv+1) (by omega) (by omega)
 by_cases c2:(opensS L s (lv+1)).c≠0
 · rw[if_pos c2]at hx
   cases hx
   simp[Tryz.f78,eA,c1',w1,eB,c2]
   exact⟨_,rfl,kAB,hB,repStm.G_nil _ _⟩
 · rw[if_neg c2]at hx
   have c2':(opensS L s (lv+1)).c=0:=by simpa using c2
   have hlv:¬24<lv+1:=fun e=>by
    unfold opensS at c2
    rw[if_pos e]at c2
    exact c2 (faultS_le L s (by omega)).2
   have hos:opensS L s (lv+1)=s:=by unfold opensS;rw[if_neg hlv]
   rw[hos]at hB hx c2' eB
   obtain⟨kD,hD⟩:=hB.on kAB c2' hlt
   have w2:=wrap64 ((s.p:Int)+1) (by omega) (by have:=h.place;omega)
   have hobj:=hB.obj
   obtain⟨o',HC,eC,v,rfl,kC,hC,gC⟩:=ih _ _ _ _ hx (by omega) (by omega) _ hD
   obtain⟨b,rfl⟩:=repStm.G_slice gC
   have nD:=kD.n
   simp[Tryz.f78,eA,c1',w1,eB,c2',hobj,w2,eC]
   exact⟨_,rfl,kD.trans kC,hC,repStm.G_move (Same.refl (fun _=>False) _) (fun i hi _=>⟨by omega,fun h=>h⟩) gC⟩
end
end Go.Vm.Parse
namespace Go.Vm.Parse
open Go Go.Proofs
structure Loc (Hp:Heap)(r lid:Nat)(L:List Tk)(sid:Nat)(s:PS)(sc:List Value)(K:Heap):Prop where
 at_:At Hp r lid L s K
 get:K.get sid = .row true 0 1 sc
 lt:sid<K.n
 own:Hp.n≤sid
 rl:r<Hp.n∧lid<Hp.n
section
variable {Hp:Heap} {r lid:Nat} {L:List Tk} {sid:Nat} {s s':PS} {sc:List Value} {K K':Heap}
theorem Loc.step (l:Loc Hp r lid L sid s sc K)(k:Same (·=r) K K')(h':RD K' r lid L s'):Loc Hp r lid L sid s' sc K' :=
 ⟨l.at_.go k h',k.at l.get (by simp) (by have:=l.own;have:=l.rl.1;omega),Nat.lt_of_lt_of_le l.lt k.n,l.own,l.rl⟩
theorem Loc.put (l:Loc Hp r lid L sid s sc K)(sc':List Value):Loc Hp r lid L sid s sc' (K.set sid (.row true 0 1 sc')) :=
 ⟨l.at_.set l.rl.1 l.rl.2 l.own l.lt _,Heap.get_set_self _ _ l.lt,l.lt,l.own,l.rl⟩
theorem Loc.push (l:Loc Hp r lid L sid s sc K)(o:AObj):Loc Hp r lid L sid s sc (K.push o) :=
 ⟨l.at_.push o,by rw[Heap.get_push,if_neg (Nat.ne_of_lt l.lt)];exact l.get,Nat.lt_succ_of_lt l.lt,l.own,l.rl⟩
theorem Loc.on (l:Loc Hp r lid L sid s sc K)(hp:s.p<L.length):Loc Hp r lid L sid s.on sc (K.set r (.row true 0 1 [.slice (some ⟨lid,0,none⟩) L.length L.length,.int .i64 (s.p+1),.int .i64 s.c,.int .i64 s.a])) :=
 ⟨l.at_.on hp,by
  have h1:=l.rl.1
  have h2:=l.own
  rw[Heap.get_set _ _ _ (Nat.lt_of_lt_of_le h1 l.at_.n),if_neg (by omega)];exact l.get,l.lt,l.own,l.rl⟩
theorem Loc.fld {α:Type}{ρ:Rep α}{v:Value}{q:List α}(l:Loc Hp r lid L sid s sc K)(h:ρ.G K (fun i=>sid<i) v q)(k:Same (·=r) K K'):ρ.G K' (fun i=>sid<i) v q :=
 ρ.G_move k (fun i hi _=>⟨hi,by have:=l.own;have:=l.rl.1;omega⟩) h
theorem Loc.fld_put {α:Type}{ρ:Rep α}{v:Value}{q:List α}(l:Loc Hp r lid L sid s sc K)(h:ρ.G K (fun i=>sid<i) v q)(o:AObj):ρ.G (K.set sid o) (fun i=>sid<i) v q :=
 ρ.G_set h l.lt (fun j hj=>⟨hj,by omega⟩) o
theorem takeS_yes {x:ByteArray}(h:isP L s x=true):takeS L s x=s.on:=by unfold takeS;rw[if_pos h];rfl
theorem takeS_no {x:ByteArray}(h:isP L s x=false):takeS L s x=s:=by unfold takeS;rw[if_neg (by simp[h])]
variable {E:Hooks} (hE:Plain E)
include hE
theorem Loc.take_yes (l:Loc Hp r lid L sid s sc K){x:ByteArray}(h:isP L s x=true):∃ K',(run Tryz.prog E).call 29 [.pointer (some ⟨r,0,none⟩),.string x] K=some (.val (.bool true),K')∧Loc Hp r lid L sid s.on sc K'∧Same (·=r) K K':=by
 obtain⟨K',e,k,d⟩:=take_run hE l.at_.rd x
 rw[h]at e;rw[takeS_yes h]at d
 exact⟨K',e,l.step k d,k⟩
theorem Loc.take_no (l:Loc Hp r lid L sid s sc K){x:ByteArray}(h:isP L s x=false):∃ K',(run Tryz.prog E).call 29 [.pointer (some ⟨r,0,none⟩),.string x] K=some (.val (.bool false),K')∧Loc Hp r lid L sid s sc K'∧Same (·=r) K K':=by
 obtain⟨K',e,k,d⟩:=take_run hE l.at_.rd x
 rw[h]at e;rw[takeS_no h]at d
 exact⟨K',e,l.step k d,k⟩
theorem Loc.is (l:Loc Hp r lid L sid s sc K)(x:ByteArray):∃ K',(run Tryz.prog E).call 63 [.pointer (some ⟨r,0,none⟩),.string x] K=some (.val (.bool (isP L s x)),K')∧Loc Hp r lid L sid s sc K'∧Same (·=r) K K':=by
 obtain⟨K',e,k⟩:=is_run hE l.at_.rd x
 exact⟨K',e,l.step (Same.none k) (l.at_.rd.same k),Same.none k⟩
theorem Loc.must (l:Loc Hp r lid L sid s sc K)(x:ByteArray):∃ K',(run Tryz.prog E).call 26 [.pointer (some ⟨r,0,none⟩),.string x] K=some (.val (.tuple #[]),K')∧Loc Hp r lid L sid (mustS L s x) sc K'∧Same (·=r) K K':=by
 obtain⟨K',e,k,d⟩:=must_run hE l.at_.rd x
 exact⟨K',e,l.step k d,k⟩
theorem Loc.fault (l:Loc Hp r lid L sid s sc K)(c:Int):∃ K',(run Tryz.prog E).call 34 [.pointer (some ⟨r,0,none⟩),.int .i64 c] K=some (.val (.tuple #[]),K')∧Loc Hp r lid L sid (faultS L s c) sc K'∧Same (·=r) K K':=by
 obtain⟨K',e,k,d⟩:=fault_run hE l.at_.rd c
 exact⟨K',e,l.step k d,k⟩
theorem Loc.name (l:Loc Hp r lid L sid s sc K):∃ K',(run Tryz.prog E).call 27 [.pointer (some ⟨r,0,none⟩)] K=some (.val (.agg ⟨[.int .i64 (nameP L s).at_,.string (nameP L s).name]⟩),K')∧Loc Hp r lid L sid (nameS L s) sc K'∧Same (·=r) K K':=by
 obtain⟨K',e,k,d⟩:=name_run hE l.at_.rd
 exact⟨K',e,l.step k d,k⟩
theorem Loc.num (l:Loc Hp r lid L sid s sc K):∃ K',(run Tryz.prog E).call 61 [.pointer (some ⟨r,0,none⟩)] K=some (.val (.tuple #[.int .i64 (numP L s).1,.int .i64 (numP L s).2]),K')∧Loc Hp r lid L sid (numS L s) sc K'∧Same (·=r) K K':=by
 obtain⟨K',e,k,d⟩:=num_run hE l.at_.rd
 exact⟨K',e,l.step k d,k⟩
theorem Loc.expr (l:Loc Hp r lid L sid s sc K){n:Nat}{lv:Int}{x:Ex}(hx:xP L n (.row 1 lv) s=some (x,s'))(h0:0≤lv)(h24:lv≤24) :
  ∃ K' a1 a2 a3 a4 a5 a6,(run Tryz.prog E).call 77 [.pointer (some ⟨r,0,none⟩),.int .i64 1,.int .i64 lv] K=some (.val (.agg ⟨[.int .i64 a1,.int .i64 a2,.int .i64 a3,.int .i64 a4,.string a5,a6]⟩),K')∧isTuple a6=false ∧
   Loc Hp r lid L sid s' sc (K'.push (.row true 0 6 [.int .i64 a1,.int .i64 a2,.int .i64 a3,.int .i64 a4,.string a5,a6])) ∧
   (K'.push (.row true 0 6 [.int .i64 a1,.int .i64 a2,.int .i64 a3,.int .i64 a4,.string a5,a6])).get sid = .row true 0 1 sc∧sid<K'.n ∧
   repEx.G (K'.push (.row true 0 6 [.int .i64 a1,.int .i64 a2,.int .i64 a3,.int .i64 a4,.string a5,a6])) (fun i=>sid<i) (.slice (some ⟨K'.n,0,none⟩) 1 1) [x]∧Same (·=r) K K':=by
 obtain⟨o,K',e,cs,rfl,k,d,rx⟩:=(x_all hE n).1 _ _ _ _ _ hx (by omega) (by omega) h0 h24 _ l.at_.rd
 obtain⟨a1,a2,a3,a4,a5,a6,rfl,h6,_⟩:=rx.six
 have l2:=(l.step k d).push (.row true 0 6 [.int .i64 a1,.int .i64 a2,.int .i64 a3,.int .i64 a4,.string a5,a6])
 have nk:=k.n
 have hlt:=l.lt
 exact⟨K',a1,a2,a3,a4,a5,a6,e,h6,l2,l2.get,by omega,repEx.G_one (RE.move (Same.refl (fun _=>False) _) (S':=fun i=>sid<i) (fun i hi _=>⟨by omega,fun h=>h⟩) _ _ rx) (fun j hj hl=>⟨hj,by omega⟩) (by omega),k⟩
theorem Loc.index (l:Loc Hp r lid L sid s sc K){n:Nat}{lv:Int}{x:Ex}(hx:xP L n (.index lv) s=some (x,s'))(h0:0≤lv)(h24:lv≤24) :
  ∃ K' a1 a2 a3 a4 a5 a6,(run Tryz.prog E).call 80 [.pointer (some ⟨r,0,none⟩),.int .i64 lv] K=some (.val (.agg ⟨[.int .i64 a1,.int .i64 a2,.int .i64 a3,.int .i64 a4,.string a5,a6]⟩),K')∧isTuple a6=false ∧
   Loc Hp r lid L sid s' sc (K'.push (.row true 0 6 [.int .i64 a1,.int .i64 a2,.int .i64 a3,.int .i64 a4,.string a5,a6])) ∧
   (K'.push (.row true 0 6 [.int .i64 a1,.int .i64 a2,.int .i64 a3,.int .i64 a4,.string a5,a6])).get sid = .row true 0 1 sc∧sid<K'.n ∧
   repEx.G (K'.push (.row true 0 6 [.int .i64 a1,.int .i64 a2,.int .i64 a3,.int .i64 a4,.string a5,a6])) (fun i=>sid<i) (.slice (some ⟨K'.n,0,none⟩) 1 1) [x]∧Same (·=r) K K':=by
 obtain⟨o,K',e,cs,rfl,k,d,rx⟩:=(x_all hE n).2.2 _ _ _ _ hx h0 h24 _ l.at_.rd
 obtain⟨a1,a2,a3,a4,a5,a6,rfl,h6,_⟩:=rx.six
 have l2:=(l.step k d).push (.row true 0 6 [.int .i64 a1,.int .i64 a2,.int .i64 a3,.int .i64 a4,.string a5,a6])
 have nk:=k.n
 have hlt:=l.lt
 exact⟨K',a1,a2,a3,a4,a5,a6,e,h6,l2,l2.get,by omega,repEx.G_one (RE.move (Same.refl (fun _=>False) _) (S':=fun i=>sid<i) (fun i hi _=>⟨by omega,fun h=>h⟩) _ _ rx) (fun j hj hl=>⟨hj,by omega⟩) (by omega),k⟩
theorem Loc.items (l:Loc Hp r lid L sid s sc K){n:Nat}{q:List Itm}(hx:itemsL L n [] true s=some (q,s')) :
  ∃ K' b m,(run Tryz.prog E).call 31 [.pointer (some ⟨r,0,none⟩)] K=some (.val (.slice b m m),K')∧Loc Hp r lid L sid s' sc K'∧repItm.G K' (fun i=>sid<i) (.slice b m m) q∧Same (·=r) K K':=by
 obtain⟨o,K',e,v,rfl,k,d,g⟩:=items_run hE hx l.at_.rd
 obtain⟨b,rfl⟩:=repItm.G_slice g
 have hlt:=l.lt
 exact⟨K',b,_,e,l.step k d,repItm.G_move (Same.refl (fun _=>False) _) (fun i hi _=>⟨by omega,fun h=>h⟩) g,k⟩
theorem Loc.block {B:BrP}{n:Nat}(ih:BlockOK E B r lid L n)(l:Loc Hp r lid L sid s sc K){x:ByteArray}{lv:Int}{q:List Stm}(hx:blockP B L n x lv s=some (q,s'))(h0:0≤lv)(h24:lv≤24) :
  ∃ K' b m,(run Tryz.prog E).call 78 [.pointer (some ⟨r,0,none⟩),.string x,.int .i64 lv] K=some (.val (.slice b m m),K')∧Loc Hp r lid L sid s' sc K'∧repStm.G K' (fun i=>sid<i) (.slice b m m) q∧Same (·=r) K K':=by
 have _:=hE
 obtain⟨o,K',e,v,rfl,k,d,g⟩:=ih _ _ _ _ _ hx h0 h24 _ l.at_.rd
 obtain⟨b,rfl⟩:=repStm.G_slice g
 have hlt:=l.lt
 exact⟨K',b,_,e,l.step k d,repStm.G_move (Same.refl (fun _=>False) _) (fun i hi _=>⟨by omega,fun h=>h⟩) g,k⟩
end
def sc8 (k a:Int)(x:ByteArray)(v1 v2 v3 v4 v5:Value):List Value:=[.int .i64 k,.int .i64 a,.string x,v1,v2,v3,v4,v5]
abbrev nl:Value := .slice none 0 0
theorem Loc.ret {H K:Heap}{r lid:Nat}{L:List Tk}{sid:Nat}{s':PS}{sc:List Value}{z:AObj}(hr:r<H.n)(hl:lid<H.n)(l:Loc (H.push z) r lid L sid s' sc K){x:Stm}(hx:RS K (fun i=>sid<i) x sc)(o:AObj) :
  RetR repStm H r lid L x s' (.val (.agg ⟨sc⟩)) (K.set H.n o):=by
 have:=l.own
 simp at this
 exact ret_rep repStm hr hl l.at_ (RS.move (Same.refl (fun _=>False) _) (fun i hi _=>⟨by omega,fun h=>h⟩) _ _ hx) o
end Go.Vm.Parse
namespace Go.Vm.Parse
open Go Go.Proofs
attribute [local simp] repCells_succ writeAt rd_Fr toList_beq gpe gpn spe gse gsn ne_r0 ne_l0 le_s0 ne_r1 ne_l1 lt_s1 le_s1 ne_r2 ne_l2 lt_s2 le_s2 ne_r3 ne_l3 lt_s3 le_s3 ne_r4 ne_l4 lt_s4 le_s4 ne_r5 ne_l5 lt_s5 le_s5 ne_r6 ne_l6 lt_s6 le_s6 ne_r7 ne_l7 lt_s7 le_s7
theorem pl_stmt:planOf Tryz.prog (drawN Tryz.f64 0)=some [(some (0,2)),(some (0,2)),none,none,none,none,none,none,none]:=by decide +kernel
theorem RB.four {H:Heap}{S:Nat→Prop}{b:Bra}{cs:List Value}(h:RB H S b cs):∃ a x b1 n1 c1 b2 n2 c2,cs=[.int .i64 a,.string x,.slice b1 n1 c1,.slice b2 n2 c2]:=by
 obtain⟨v,w,rfl,h1,h2⟩:=h
 obtain⟨b1,rfl⟩:=repEx.G_slice h1
 obtain⟨b2,rfl⟩:=repItm.G_slice h2
 exact⟨_,_,_,_,_,_,_,_,rfl⟩
def ForkI (B:BrP)(r lid:Nat)(L:List Tk)(lv:Int)(Hp:Heap)(sid:Nat)(at_:Int)(res:List Bra)(s':PS)(n m:Nat)(t:List Value)(H':Heap):Prop :=
 m≤n∧∃ acc again s v,branL B L lv m acc again s=some (res,s')∧rd t 7 = .bool again∧Loc Hp r lid L sid s (sc8 7 at_ ByteArray.empty nl nl nl v nl) H'∧repBra.G H' (fun i=>sid<i) v acc∧(s.c=0→acc.length≤s.p)
section
variable {E:Hooks} (hE:Plain E) {B:BrP} {r lid:Nat} {L:List Tk}
include hE
theorem stmt_walk (hB:BLt B L)(hBr:BranOK E B r lid L){n:Nat}(ih:BlockOK E B r lid L n):StmtOK E B r lid L (n+1):=by
 intro lv s x s' hx h0 h24 H h
 have hr:=h.lt
 have hl:=h.lid_lt
 have hsm:=h.small
 have aP:At (H.push (.row true 0 1 z8)) r lid L s (H.push (.row true 0 1 z8)):=⟨Same.refl _ _,h.same (Same.push _ _ _)⟩
 obtain⟨HA,eA,kA⟩:=now_run hE aP.rd
 have aA:=aP.go (Same.none kA) (aP.rd.same kA)
 have nA:=kA.n
 simp at nA
 generalize htk:tok L s.p=tk at *
 have aB:=(aA.push (.row true 0 1 tk.cells)).push (.row true 0 1 (sc8 0 tk.at_ ByteArray.empty nl nl nl nl nl))
 have l0:Loc (H.push (.row true 0 1 z8)) r lid L (HA.n+1) s (sc8 0 tk.at_ ByteArray.empty nl nl nl nl nl) ((HA.push (.row true 0 1 tk.cells)).push (.row true 0 1 (sc8 0 tk.at_ ByteArray.empty nl nl nl nl nl))) :=
  ⟨aB,Heap.get_push_self _ _,by simp,by simp;omega,by simp;omega,by simp;omega⟩
 have hz:∀ {s1 sc K},Loc (H.push (.row true 0 1 z8)) r lid L (HA.n+1) s1 sc K→K.get H.n = .row true 0 1 z8∧H.n<K.n:=fun l=>⟨l.at_.same.at (Heap.get_push_self _ _) (by simp) (by omega),by have:=l.at_.n;simp at this;omega⟩
 have hne1:¬H.n=HA.n+1:=by omega
 have hne2:¬HA.n+1=H.n:=by omega
 rw[c_stmt hE,callB,bodyOf]
 rw[stmtP,htk]at hx
 simp only[z8,Tk.v,Tk.cells,sc8,nl]at eA l0
 by_cases c1:tk.kind=1
 · rw[if_pos c1]at hx
   obtain⟨o,HB,eB,cs,rfl,kB,hB,rB⟩:=named_run hE h0 h24 hx l0.at_.rd
   have lB:=l0.step kB hB
   have hzB:=hz lB
   have d1:decide (tk.kind=1)=true:=by simpa using c1
   obtain⟨a1,a2,a3,b1,n1,c1',b2,n2,c2,b3,n3,c3,b4,n4,c4,b5,n5,c5,rfl⟩:=RS.eight rB
   simp only[z8]at hzB
   simp[Tryz.f64,eA,d1,eB,hzB]
   exact ret_rep repStm hr hl lB.at_ (RS.move (Same.refl (fun _=>False) _) (S':=fun i=>H.n+1≤i) (fun i hi _=>⟨by simp at hi;omega,fun h=>h⟩) _ _ rB) _
 rw[if_neg c1]at hx
 have d1:decide (tk.kind=1)=false:=by simpa using c1
 by_cases c2:isP L s tSkip=true
 · rw[if_pos c2]at hx
   cases hx
   obtain⟨K1,e1,l1,-⟩:=l0.take_yes hE c2
   have lz:=l1.put (sc8 1 tk.at_ ByteArray.empty nl nl nl nl nl)
   have g1:=l1.get
   have t1:=l1.lt
   have hz1:=hz l1
   have hq:=RS.put (H:=K1.set (HA.n+1) (.row true 0 1 (sc8 1 tk.at_ ByteArray.empty nl nl nl nl nl))) (S:=fun i=>HA.n+1<i) (kind:=1) (at_:=tk.at_) (name:=ByteArray.empty) (repEx.G_nil _ _) (repStm.G_nil _ _) (repStm.G_nil _ _) (repBra.G_nil _ _) (repItm.G_nil _ _)
   simp only[tSkip,z8,sc8,nl]at e1 g1 hz1 lz hq
   simp[Tryz.f64,eA,d1,e1,g1,t1,hz1,hne1,hne2]
   exact lz.ret hr hl hq _
 rw[if_neg c2]at hx
 have c2':isP L s tSkip=false:=by simpa using c2
 obtain⟨K1,e1,l1,-⟩:=l0.take_no hE c2'
 simp only[tSkip]at e1
 by_cases c3:isP L s tIf=true
 · rw[if_pos c3]at hx
   simp only[Option.bind_eq_some_iff]at hx
   obtain⟨⟨x1,s1⟩,hx1,⟨b1,s2⟩,hx2,hx3⟩:=hx
   obtain⟨K2,e2,l2,-⟩:=l1.take_yes hE c3
   have l3:=l2.put (sc8 4 tk.at_ ByteArray.empty nl nl nl nl nl)
   obtain⟨K3,a1,a2,a3,a4,a5,a6,e3,h6,l4,g4,t4,q4,-⟩:=l3.expr hE hx1 h0 h24
   have l5:=l4.put (sc8 4 tk.at_ ByteArray.empty (.slice (some ⟨K3.n,0,none⟩) 1 1) nl nl nl nl)
   have q5:=l4.fld_put q4 (.row true 0 1 (sc8 4 tk.at_ ByteArray.empty (.slice (some ⟨K3.n,0,none⟩) 1 1) nl nl nl nl))
   obtain⟨K4,bb,bm,e6,l6,b6,k6⟩:=l5.block hE ih hx2 h0 h24
   have q6:=l5.fld q5 k6
   have l7:=l6.put (sc8 4 tk.at_ ByteArray.empty (.slice (some ⟨K3.n,0,none⟩) 1 1) (.slice bb bm bm) nl nl nl)
   have q7:=l6.fld_put q6 (.row true 0 1 (sc8 4 tk.at_ ByteArray.empty (.slice (some ⟨K3.n,0,none⟩) 1 1) (.slice bb bm bm) nl nl nl))
   have b7:=l6.fld_put b6 (.row true 0 1 (sc8 4 tk.at_ ByteArray.empty (.slice (some ⟨K3.n,0,none⟩) 1 1) (.slice bb bm bm) nl nl nl))
   obtain⟨K5,e8,l8,k8⟩:=l7.is hE tElse
   have q8:=l7.fld q7 k8
   have b8:=l7.fld b7 k8
   have g2:=l2.get
   have t2:=l2.lt
   have g6:=l6.get
   have t6:=l6.lt
   have g8:=l8.get
   have t8:=l8.lt
   simp only[tIf,tThen,tElse,z8,sc8,nl]at e2 g2 e3 g4 e6 g6 e8 g8
   by_cases c:isP L s2 tElse=true
   · rw[if_pos c]at hx3
     simp only[Option.map_eq_some_iff]at hx3
     obtain⟨⟨c1,s3⟩,hx3,hx4⟩:=hx3
     cases hx4
     obtain⟨K6,cb,cm,e9,l9,c9,k9⟩:=l8.block hE ih hx3 h0 h24
     have q9:=l8.fld q8 k9
     have b9:=l8.fld b8 k9
     have l10:=l9.put (sc8 4 tk.at_ ByteArray.empty (.slice (some ⟨K3.n,0,none⟩) 1 1) (.slice bb bm bm) (.slice cb cm cm) nl nl)
     have q10:=l9.fld_put q9 (.row true 0 1 (sc8 4 tk.at_ ByteArray.empty (.slice (some ⟨K3.n,0,none⟩) 1 1) (.slice bb bm bm) (.slice cb cm cm) nl nl))
     have b10:=l9.fld_put b9 (.row true 0 1 (sc8 4 tk.at_ ByteArray.empty (.slice (some ⟨K3.n,0,none⟩) 1 1) (.slice bb bm bm) (.slice cb cm cm) nl nl))
     have c10:=l9.fld_put c9 (.row true 0 1 (sc8 4 tk.at_ ByteArray.empty (.slice (some ⟨K3.n,0,none⟩) 1 1) (.slice bb bm bm) (.slice cb cm cm) nl nl))
     obtain⟨K7,e11,l11,k11⟩:=l10.must hE tFi
     have hq:=RS.put (kind:=4) (at_:=tk.at_) (name:=ByteArray.empty) (l10.fld q10 k11) (l10.fld b10 k11) (l10.fld c10 k11) (repBra.G_nil _ _) (repItm.G_nil _ _)
     have g9:=l9.get
     have t9:=l9.lt
     have g11:=l11.get
     have hz1:=hz l11
     simp only[tElse]at c
     simp only[tElse,tFi,z8,sc8,nl]at e9 g9 e11 g11 hz1 l11 hq
     simp[Tryz.f64,eA,d1,e1,e2,g2,t2,e3,h6,g4,t4,e6,g6,t6,e8,c,e9,g9,t9,e11,g11,hz1,hne1,hne2]
     exact l11.ret hr hl hq _
   · rw[if_neg c]at hx3
     cases hx3
     have c':isP L s2 tElse=false:=by simpa using c
     obtain⟨K7,e11,l11,k11⟩:=l8.must hE tFi
     have hq:=RS.put (kind:=4) (at_:=tk.at_) (name:=ByteArray.empty) (l8.fld q8 k11) (l8.fld b8 k11) (repStm.G_nil _ _) (repBra.G_nil _ _) (repItm.G_nil _ _)
     have g11:=l11.get
     have hz1:=hz l11
     simp only[tElse]at c'
     simp only[tElse,tFi,z8,sc8,nl]at e11 g11 hz1 l11 hq
     simp[Tryz.f64,eA,d1,e1,e2,g2,t2,e3,h6,g4,t4,e6,g6,t6,e8,c',e11,g11,hz1,hne1,hne2]
     exact l11.ret hr hl hq _
 rw[if_neg c3]at hx
 have c3':isP L s tIf=false:=by simpa using c3
 obtain⟨K2,e2,l2,-⟩:=l1.take_no hE c3'
 simp only[tIf]at e2
 by_cases c4:isP L s tWhile=true
 · rw[if_pos c4]at hx
   simp only[Option.bind_eq_some_iff,Option.map_eq_some_iff]at hx
   obtain⟨⟨x1,s1⟩,hx1,⟨b1,s2⟩,hx2,hx3⟩:=hx
   cases hx3
   obtain⟨K3,e3,l3,-⟩:=l2.take_yes hE c4
   have l4:=l3.put (sc8 5 tk.at_ ByteArray.empty nl nl nl nl nl)
   obtain⟨K4,a1,a2,a3,a4,a5,a6,e4,h6,l5,g5,t5,q5,-⟩:=l4.expr hE hx1 h0 h24
   have l6:=l5.put (sc8 5 tk.at_ ByteArray.empty (.slice (some ⟨K4.n,0,none⟩) 1 1) nl nl nl nl)
   have q6:=l5.fld_put q5 (.row true 0 1 (sc8 5 tk.at_ ByteArray.empty (.slice (some ⟨K4.n,0,none⟩) 1 1) nl nl nl nl))
   obtain⟨K5,bb,bm,e7,l7,b7,k7⟩:=l6.block hE ih hx2 h0 h24
   have q7:=l6.fld q6 k7
   have l8:=l7.put (sc8 5 tk.at_ ByteArray.empty (.slice (some ⟨K4.n,0,none⟩) 1 1) (.slice bb bm bm) nl nl nl)
   have q8:=l7.fld_put q7 (.row true 0 1 (sc8 5 tk.at_ ByteArray.empty (.slice (some ⟨K4.n,0,none⟩) 1 1) (.slice bb bm bm) nl nl nl))
   have b8:=l7.fld_put b7 (.row true 0 1 (sc8 5 tk.at_ ByteArray.empty (.slice (some ⟨K4.n,0,none⟩) 1 1) (.slice bb bm bm) nl nl nl))
   obtain⟨K6,e9,l9,k9⟩:=l8.must hE tOd
   have hq:=RS.put (kind:=5) (at_:=tk.at_) (name:=ByteArray.empty) (l8.fld q8 k9) (l8.fld b8 k9) (repStm.G_nil _ _) (repBra.G_nil _ _) (repItm.G_nil _ _)
   have g3:=l3.get
   have t3:=l3.lt
   have g7:=l7.get
   have t7:=l7.lt
   have g9:=l9.get
   have hz1:=hz l9
   simp only[tWhile,tDo,tOd,z8,sc8,nl]at e3 g3 e4 g5 e7 g7 e9 g9 hz1 l9 hq
   simp[Tryz.f64,eA,d1,e1,e2,e3,g3,t3,e4,h6,g5,t5,e7,g7,t7,e9,g9,hz1,hne1,hne2]
   exact l9.ret hr hl hq _
 rw[if_neg c4]at hx
 have c4':isP L s tWhile=false:=by simpa using c4
 obtain⟨K3,e3,l3,-⟩:=l2.take_no hE c4'
 simp only[tWhile]at e3
 by_cases c5:isP L s tCobegin=true
 · rw[if_pos c5]at hx
   simp only[Option.map_eq_some_iff]at hx
   obtain⟨⟨q,s2⟩,hx2,hx3⟩:=hx
   cases hx3
   obtain⟨K4,e4,l4,-⟩:=l3.take_yes hE c5
   have l5:=l4.put (sc8 7 tk.at_ ByteArray.empty nl nl nl nl nl)
   have g4:=l4.get
   have t4:=l4.lt
   have l5':=l5
   simp only[tCobegin,z8,sc8,nl]at e4 g4 l5'
   simp[Tryz.f64,eA,d1,e1,e2,e3,e4,g4,t4]
   refine loop_wp (ForkI B r lid L lv (H.push (.row true 0 1 z8)) (HA.n+1) tk.at_ q s2 n) n ?_ ?_
   · exact⟨Nat.le_refl n,[],true,_,nl,hx2,by simp,l5,repBra.G_nil _ _,fun _=>by simp⟩
   rintro m t H' hk ⟨hmn,acc,again,s3,v,hxl,g7,lF,gF,hlen⟩
   have ht:t.length=171:=hk.1.trans (by simp[len_Bs])
   have hh:=hk.all [0,1,4,6] (by decide +kernel)
   simp at hh
   obtain⟨u0,u1,u4,u6⟩:=hh
   have eb:=bad_run hE lF.at_.rd
   cases m with
   | zero=>cases hxl
   | succ m =>
   rw[branL]at hxl
   by_cases hg:again=true∧s3.c=0
   · rw[if_pos hg]at hxl
     obtain⟨rfl,hc⟩:=hg
     simp only[Option.bind_eq_some_iff]at hxl
     obtain⟨⟨x,s4⟩,hxa,hxb⟩:=hxl
     obtain⟨o,HC,eC,cs,rfl,kC,hC,rC⟩:=hBr _ _ _ _ _ hxa h0 h24 _ lF.at_.rd
     have lC:=lF.step kC hC
     have gC:=lF.fld gF kC
     obtain⟨b,rfl⟩:=repBra.G_slice gF
     have hvl:∀ i,vid (.slice b acc.length acc.length) i→i<H'.n∧HA.n+1<i:=fun i hi=>repBra.G_lt gF hi
     have nC:=kC.n
     have tF:=lF.lt
     have hsub:=hB _ _ _ _ _ hxa
     obtain⟨v',HD,eD,gD,kD⟩:=repBra.G_app tf_bra gC (fun i hi=>by omega) (by have:=hlen hc;have:=lF.at_.rd.place;omega) (a:=x) (c:=cs) (repBra.move (Same.refl (fun _=>False) _) (fun i hi _=>⟨⟨by omega,fun e=>by have:=hvl _ e;omega⟩,fun h=>h⟩) _ _ rC)
     have nD:=kD.n
     have rC2:RB HC (fun i=>H'.n≤i) x cs:=rC
     obtain⟨a1,a2,b1,n1,c1x,b2,n2,c2x,rfl⟩:=RB.four rC2
     have rlC:=lC.rl
     have ownC:=lC.own
     have aD:At (H.push (.row true 0 1 z8)) r lid L s4 HD:=⟨lC.at_.same.then kD (fun i hi => .inr (by have:=hvl _ hi;omega)),lC.at_.rd.keep kD (fun hi=>by have:=hvl _ hi;omega) (fun hi=>by have:=hvl _ hi;omega)⟩
     have lD:Loc (H.push (.row true 0 1 z8)) r lid L (HA.n+1) s4 (sc8 7 tk.at_ ByteArray.empty nl nl nl (.slice b acc.length acc.length) nl) HD:=⟨aD,kD.at lC.get (by simp) (fun hi=>by have:=hvl _ hi;omega),by have:=lC.lt;omega,lC.own,lC.rl⟩
     obtain⟨b',rfl⟩:=repBra.G_slice gD
     have lE:=lD.put (sc8 7 tk.at_ ByteArray.empty nl nl nl (.slice b' (acc++[x]).length (acc++[x]).length) nl)
     have gE:=lD.fld_put gD (.row true 0 1 (sc8 7 tk.at_ ByteArray.empty nl nl nl (.slice b' (acc++[x]).length (acc++[x]).length) nl))
     obtain⟨HG,eG,kG,hG⟩:=take_run hE lE.at_.rd tSlash
     have lG:=lE.step kG hG
     have gG:=lE.fld gE kG
     have gF1:=lF.get
     have gC1:=lC.get
     have tC:=lC.lt
     have gD1:=lD.get
     have tD:=lD.lt
     have fin:s4.c=0→(acc++[x]).length≤(takeS L s4 tSlash).p:=fun e0=>by
      have h1:=takeS_c L s4 tSlash
      have h2:=hsub.on e0
      have h4:=hlen hc
      simp
      omega
     simp only[tSlash,sc8,nl]at eG gF1 gC1 gD1
     simp only[repBra]at eD
     simp[List.length_append]at eD eG
     simp[ht,g7,u0,u1,u4,u6,eb,hc]
     refine region_plan (by exact pl_stmt) ?_
     simp[ht,g7,u0,u1,u4,u6,gF1,gC1,eC,eD,gD1,tC,tD,eG]
     refine⟨m,by omega,by omega,_,_,_,.slice b' (acc++[x]).length (acc++[x]).length,hxb,by simp[ht,tSlash],?_,?_,?_⟩
     · simpa [sc8,nl,tSlash] using lG
     · simpa [sc8,nl,tSlash] using gG
     · exact fun e0=>fin (by rw[← (takeS_c L s4 tSlash).1];exact e0)
   · rw[if_neg hg]at hxl
     cases hxl
     obtain⟨b,rfl⟩:=repBra.G_slice gF
     obtain⟨KZ,eZ,lZ,kZ⟩:=lF.must hE tCoend
     have hq:=RS.put (kind:=7) (at_:=tk.at_) (name:=ByteArray.empty) (repEx.G_nil _ _) (repStm.G_nil _ _) (repStm.G_nil _ _) (lF.fld gF kZ) (repItm.G_nil _ _)
     have gZ:=lZ.get
     have hz1:=hz lZ
     simp only[tCoend,z8,sc8,nl]at eZ gZ hz1 lZ hq
     by_cases ha:again=true
     · have hc:¬s2.c=0:=fun e=>hg ⟨ha,e⟩
       subst ha
       simp[ht,g7,u0,u1,u4,u6,eb,hc,eZ,gZ,hz1,hne1,hne2]
       exact lZ.ret hr hl hq _
     · have ha':again=false:=by simpa using ha
       subst ha'
       simp[ht,g7,u0,u1,u4,u6,eZ,gZ,hz1,hne1,hne2]
       exact lZ.ret hr hl hq _
 rw[if_neg c5]at hx
 have c5':isP L s tCobegin=false:=by simpa using c5
 obtain⟨K4,e4,l4,-⟩:=l3.take_no hE c5'
 obtain⟨K5,e5,l5,-⟩:=l4.is hE (b1 80)
 obtain⟨K6,e6,l6,-⟩:=l5.is hE (b1 86)
 simp only[tCobegin,b1]at e4 e5 e6
 by_cases c6:isP L s (b1 80)=true∨isP L s (b1 86)=true
 · rw[if_pos c6]at hx
   cases hx
   by_cases cP:isP L s (b1 80)=true
   · have hlt:=isP_lt cP
     have cV:isP L s (b1 86)=false:=by
      unfold isP at cP ⊢
      simp only[decide_eq_true_eq,decide_eq_false_iff_not]at cP ⊢
      rintro⟨_,_,e⟩
      rw[cP.2.2]at e
      exact absurd e (by decide)
     rw[show (if isP L s (b1 86)=true then (9:Int)else 8)=8 from if_neg (by simp[cV])]
     have l7:=l5.put (sc8 8 tk.at_ ByteArray.empty nl nl nl nl nl)
     obtain⟨K7,e7,l8,-⟩:=l7.is hE (b1 86)
     have l9:=l8.on hlt
     obtain⟨K8,e8,l10,-⟩:=l9.must hE (b1 40)
     obtain⟨K9,e9,l11,-⟩:=l10.name hE
     have l12:=l11.put (sc8 8 tk.at_ (nameP L (mustS L s.on (b1 40))).name nl nl nl nl nl)
     obtain⟨KA,eB,l13,-⟩:=l12.must hE (b1 41)
     have hq:=RS.put (H:=KA) (S:=fun i=>HA.n+1<i) (kind:=8) (at_:=tk.at_) (name:=(nameP L (mustS L s.on (b1 40))).name) (repEx.G_nil _ _) (repStm.G_nil _ _) (repStm.G_nil _ _) (repBra.G_nil _ _) (repItm.G_nil _ _)
     have g5:=l5.get
     have t5:=l5.lt
     have g11:=l11.get
     have t11:=l11.lt
     have g13:=l13.get
     have hz1:=hz l13
     have hw:=wrap64 ((s.p:Int)+1) (by omega) (by have:=h.place;omega)
     have hobj:=l8.at_.rd.obj
     simp only[b1]at cP cV
     simp only[b1,z8,sc8,nl]at g5 e7 e8 e9 g11 eB g13 hz1 l13 hq
     simp[Tryz.f64,eA,d1,e1,e2,e3,e4,e5,cP,g5,t5,e7,cV,hobj,hw,e8,e9,g11,t11,eB,g13,hz1,hne1,hne2]
     exact l13.ret hr hl hq _
   · have cP':isP L s (b1 80)=false:=by simpa using cP
     have cV:isP L s (b1 86)=true:=c6.resolve_left cP
     have hlt:=isP_lt cV
     have l7:=l6.put (sc8 8 tk.at_ ByteArray.empty nl nl nl nl nl)
     obtain⟨K7,e7,l8,-⟩:=l7.is hE (b1 86)
     have l8':=l8.put (sc8 9 tk.at_ ByteArray.empty nl nl nl nl nl)
     have l9:=l8'.on hlt
     obtain⟨K8,e8,l10,-⟩:=l9.must hE (b1 40)
     obtain⟨K9,e9,l11,-⟩:=l10.name hE
     have l12:=l11.put (sc8 9 tk.at_ (nameP L (mustS L s.on (b1 40))).name nl nl nl nl nl)
     obtain⟨KA,eB,l13,-⟩:=l12.must hE (b1 41)
     have hq:=RS.put (H:=KA) (S:=fun i=>HA.n+1<i) (kind:=9) (at_:=tk.at_) (name:=(nameP L (mustS L s.on (b1 40))).name) (repEx.G_nil _ _) (repStm.G_nil _ _) (repStm.G_nil _ _) (repBra.G_nil _ _) (repItm.G_nil _ _)
     have g6:=l6.get
     have t6:=l6.lt
     have g8:=l8.get
     have t8:=l8.lt
     have g11:=l11.get
     have t11:=l11.lt
     have g13:=l13.get
     have hz1:=hz l13
     have hw:=wrap64 ((s.p:Int)+1) (by omega) (by have:=h.place;omega)
     have hobj:=l8'.at_.rd.obj
     rw[cV]
     simp only[b1]at cP' cV
     simp only[b1,z8,sc8,nl]at g6 e7 g8 hobj e8 e9 g11 eB g13 hz1 l13 hq
     simp[Tryz.f64,eA,d1,e1,e2,e3,e4,e5,cP',e6,cV,g6,t6,e7,g8,t8,hobj,hw,e8,e9,g11,t11,eB,g13,hz1,hne1,hne2]
     exact l13.ret hr hl hq _
 rw[if_neg c6]at hx
 have cP:isP L s (b1 80)=false:=by
  cases hp:isP L s (b1 80)
  · rfl
  · exact absurd (.inl hp) c6
 have cV:isP L s (b1 86)=false:=by
  cases hp:isP L s (b1 86)
  · rfl
  · exact absurd (.inr hp) c6
 simp only[b1]at cP cV
 by_cases c7:isP L s tRegion=true
 · rw[if_pos c7]at hx
   obtain⟨K7,e7,l7,-⟩:=l6.take_yes hE c7
   have l8:=l7.put (sc8 10 tk.at_ ByteArray.empty nl nl nl nl nl)
   obtain⟨K8,e8,l9,-⟩:=l8.name hE
   have l10:=l9.put (sc8 10 tk.at_ (nameP L s.on).name nl nl nl nl nl)
   have g7:=l7.get
   have t7:=l7.lt
   have g9:=l9.get
   have t9:=l9.lt
   by_cases c:isP L (nameS L s.on) tWhen=true
   · rw[if_pos c]at hx
     simp only[Option.bind_eq_some_iff,Option.map_eq_some_iff]at hx
     obtain⟨⟨x1,s1⟩,hx1,⟨b1',s2⟩,hx2,hx3⟩:=hx
     cases hx3
     obtain⟨K9,e10,l11,-⟩:=l10.take_yes hE c
     obtain⟨KA,a1,a2,a3,a4,a5,a6,e11,h6,l12,g12,t12,q12,-⟩:=l11.expr hE hx1 h0 h24
     have l13:=l12.put (sc8 10 tk.at_ (nameP L s.on).name (.slice (some ⟨KA.n,0,none⟩) 1 1) nl nl nl nl)
     have q13:=l12.fld_put q12 (.row true 0 1 (sc8 10 tk.at_ (nameP L s.on).name (.slice (some ⟨KA.n,0,none⟩) 1 1) nl nl nl nl))
     obtain⟨KB,bb,bm,e14,l14,b14,k14⟩:=l13.block hE ih hx2 h0 h24
     have q14:=l13.fld q13 k14
     have l15:=l14.put (sc8 10 tk.at_ (nameP L s.on).name (.slice (some ⟨KA.n,0,none⟩) 1 1) (.slice bb bm bm) nl nl nl)
     have q15:=l14.fld_put q14 (.row true 0 1 (sc8 10 tk.at_ (nameP L s.on).name (.slice (some ⟨KA.n,0,none⟩) 1 1) (.slice bb bm bm) nl nl nl))
     have b15:=l14.fld_put b14 (.row true 0 1 (sc8 10 tk.at_ (nameP L s.on).name (.slice (some ⟨KA.n,0,none⟩) 1 1) (.slice bb bm bm) nl nl nl))
     obtain⟨KC,e16,l16,k16⟩:=l15.must hE tOd
     have hq:=RS.put (kind:=10) (at_:=tk.at_) (name:=(nameP L s.on).name) (l15.fld q15 k16) (l15.fld b15 k16) (repStm.G_nil _ _) (repBra.G_nil _ _) (repItm.G_nil _ _)
     have g14:=l14.get
     have t14:=l14.lt
     have g16:=l16.get
     have hz1:=hz l16
     simp only[tRegion,tWhen,tDo,tOd,z8,sc8,nl]at e7 g7 e8 g9 e10 e11 g12 e14 g14 e16 g16 hz1 l16 hq
     simp[Tryz.f64,eA,d1,e1,e2,e3,e4,e5,cP,e6,cV,e7,g7,t7,e8,g9,t9,e10,e11,h6,g12,t12,e14,g14,t14,e16,g16,hz1,hne1,hne2]
     exact l16.ret hr hl hq _
   · rw[if_neg c]at hx
     simp only[Option.map_eq_some_iff]at hx
     obtain⟨⟨b1',s2⟩,hx2,hx3⟩:=hx
     cases hx3
     have c':isP L (nameS L s.on) tWhen=false:=by simpa using c
     obtain⟨K9,e10,l11,-⟩:=l10.take_no hE c'
     obtain⟨KB,bb,bm,e14,l14,b14,k14⟩:=l11.block hE ih hx2 h0 h24
     have l15:=l14.put (sc8 10 tk.at_ (nameP L s.on).name nl (.slice bb bm bm) nl nl nl)
     have b15:=l14.fld_put b14 (.row true 0 1 (sc8 10 tk.at_ (nameP L s.on).name nl (.slice bb bm bm) nl nl nl))
     obtain⟨KC,e16,l16,k16⟩:=l15.must hE tOd
     have hq:=RS.put (kind:=10) (at_:=tk.at_) (name:=(nameP L s.on).name) (repEx.G_nil _ _) (l15.fld b15 k16) (repStm.G_nil _ _) (repBra.G_nil _ _) (repItm.G_nil _ _)
     have g14:=l14.get
     have t14:=l14.lt
     have g16:=l16.get
     have hz1:=hz l16
     simp only[tRegion,tWhen,tDo,tOd,z8,sc8,nl]at e7 g7 e8 g9 e10 e14 g14 e16 g16 hz1 l16 hq
     simp[Tryz.f64,eA,d1,e1,e2,e3,e4,e5,cP,e6,cV,e7,g7,t7,e8,g9,t9,e10,e14,g14,t14,e16,g16,hz1,hne1,hne2]
     exact l16.ret hr hl hq _
 rw[if_neg c7]at hx
 have c7':isP L s tRegion=false:=by simpa using c7
 obtain⟨K7,e7,l7,-⟩:=l6.take_no hE c7'
 simp only[tRegion]at e7
 by_cases c8:isP L s tRequest=true
 · rw[if_pos c8]at hx
   simp only[Option.map_eq_some_iff]at hx
   obtain⟨⟨q,s2⟩,hx2,hx3⟩:=hx
   cases hx3
   obtain⟨K8,e8,l8,-⟩:=l7.take_yes hE c8
   have l9:=l8.put (sc8 11 tk.at_ ByteArray.empty nl nl nl nl nl)
   obtain⟨K9,ib,im,e9,l10,i10,-⟩:=l9.items hE hx2
   have l11:=l10.put (sc8 11 tk.at_ ByteArray.empty nl nl nl nl (.slice ib im im))
   have i11:=l10.fld_put i10 (.row true 0 1 (sc8 11 tk.at_ ByteArray.empty nl nl nl nl (.slice ib im im)))
   have hq:=RS.put (kind:=11) (at_:=tk.at_) (name:=ByteArray.empty) (repEx.G_nil _ _) (repStm.G_nil _ _) (repStm.G_nil _ _) (repBra.G_nil _ _) i11
   have g8:=l8.get
   have t8:=l8.lt
   have g10:=l10.get
   have t10:=l10.lt
   have hz1:=hz l10
   simp only[tRequest,z8,sc8,nl]at e8 g8 e9 g10 hz1 l11 hq
   simp[Tryz.f64,eA,d1,e1,e2,e3,e4,e5,cP,e6,cV,e7,e8,g8,t8,e9,g10,t10,hz1,hne1,hne2]
   exact l11.ret hr hl hq _
 rw[if_neg c8]at hx
 have c8':isP L s tRequest=false:=by simpa using c8
 obtain⟨K8,e8,l8,-⟩:=l7.take_no hE c8'
 simp only[tRequest]at e8
 by_cases c9:isP L s tRelease=true
 · rw[if_pos c9]at hx
   simp only[Option.map_eq_some_iff]at hx
   obtain⟨⟨q,s2⟩,hx2,hx3⟩:=hx
   cases hx3
   obtain⟨K9,e9,l9,-⟩:=l8.take_yes hE c9
   have l10:=l9.put (sc8 12 tk.at_ ByteArray.empty nl nl nl nl nl)
   obtain⟨KA,ib,im,e10,l11,i11,-⟩:=l10.items hE hx2
   have l12:=l11.put (sc8 12 tk.at_ ByteArray.empty nl nl nl nl (.slice ib im im))
   have i12:=l11.fld_put i11 (.row true 0 1 (sc8 12 tk.at_ ByteArray.empty nl nl nl nl (.slice ib im im)))
   have hq:=RS.put (kind:=12) (at_:=tk.at_) (name:=ByteArray.empty) (repEx.G_nil _ _) (repStm.G_nil _ _) (repStm.G_nil _ _) (repBra.G_nil _ _) i12
   have g9:=l9.get
   have t9:=l9.lt
   have g11:=l11.get
   have t11:=l11.lt
   have hz1:=hz l11
   simp only[tRelease,z8,sc8,nl]at e9 g9 e10 g11 hz1 l12 hq
   simp[Tryz.f64,eA,d1,e1,e2,e3,e4,e5,cP,e6,cV,e7,e8,e9,g9,t9,e10,g11,t11,hz1,hne1,hne2]
   exact l12.ret hr hl hq _
 rw[if_neg c9]at hx
 have c9':isP L s tRelease=false:=by simpa using c9
 obtain⟨K9,e9,l9,-⟩:=l8.take_no hE c9'
 simp only[tRelease]at e9
 by_cases c10:isP L s tRead=true
 · rw[if_pos c10]at hx
   obtain⟨KA,e10,l10,-⟩:=l9.take_yes hE c10
   have l11:=l10.put (sc8 13 tk.at_ ByteArray.empty nl nl nl nl nl)
   obtain⟨KB,e12,l12,-⟩:=l11.name hE
   have l13:=l12.put (sc8 13 tk.at_ (nameP L s.on).name nl nl nl nl nl)
   obtain⟨KC,e14,l14,-⟩:=l13.is hE (b1 91)
   have g10:=l10.get
   have t10:=l10.lt
   have g12:=l12.get
   have t12:=l12.lt
   have g14:=l14.get
   have t14:=l14.lt
   by_cases c:isP L (nameS L s.on) (b1 91)=true
   · rw[if_pos c]at hx
     simp only[Option.map_eq_some_iff]at hx
     obtain⟨⟨x1,s2⟩,hx2,hx3⟩:=hx
     cases hx3
     have l15:=l14.put (sc8 14 tk.at_ (nameP L s.on).name nl nl nl nl nl)
     obtain⟨KD,a1,a2,a3,a4,a5,a6,e16,h6,l16,g16,t16,q16,-⟩:=l15.index hE hx2 h0 h24
     have l17:=l16.put (sc8 14 tk.at_ (nameP L s.on).name (.slice (some ⟨KD.n,0,none⟩) 1 1) nl nl nl nl)
     have q17:=l16.fld_put q16 (.row true 0 1 (sc8 14 tk.at_ (nameP L s.on).name (.slice (some ⟨KD.n,0,none⟩) 1 1) nl nl nl nl))
     have hq:=RS.put (kind:=14) (at_:=tk.at_) (name:=(nameP L s.on).name) q17 (repStm.G_nil _ _) (repStm.G_nil _ _) (repBra.G_nil _ _) (repItm.G_nil _ _)
     have hz1:KD.get H.n = .row true 0 1 z8∧H.n<KD.n:=⟨by have:=(hz l16).1;rwa [Heap.get_push,if_neg (by omega)]at this,by omega⟩
     simp only[b1]at c
     simp only[tRead,b1,z8,sc8,nl]at e10 g10 e12 g12 e14 g14 e16 g16 hz1 l17 hq
     simp[Tryz.f64,eA,d1,e1,e2,e3,e4,e5,cP,e6,cV,e7,e8,e9,e10,g10,t10,e12,g12,t12,e14,c,g14,t14,e16,h6,g16,t16,hz1,hne1,hne2]
     exact l17.ret hr hl hq _
   · rw[if_neg c]at hx
     cases hx
     have c':isP L (nameS L s.on) (b1 91)=false:=by simpa using c
     have hq:=RS.put (H:=KC) (S:=fun i=>HA.n+1<i) (kind:=13) (at_:=tk.at_) (name:=(nameP L s.on).name) (repEx.G_nil _ _) (repStm.G_nil _ _) (repStm.G_nil _ _) (repBra.G_nil _ _) (repItm.G_nil _ _)
     have hz1:=hz l14
     simp only[b1]at c'
     simp only[tRead,b1,z8,sc8,nl]at e10 g10 e12 g12 e14 g14 hz1 l14 hq
     simp[Tryz.f64,eA,d1,e1,e2,e3,e4,e5,cP,e6,cV,e7,e8,e9,e10,g10,t10,e12,g12,t12,e14,c',g14,t14,hz1,hne1,hne2]
     exact l14.ret hr hl hq _
 rw[if_neg c10]at hx
 have c10':isP L s tRead=false:=by simpa using c10
 obtain⟨KA,e10,l10,-⟩:=l9.take_no hE c10'
 simp only[tRead]at e10
 by_cases c11:isP L s tWrite=true
 · rw[if_pos c11]at hx
   simp only[Option.map_eq_some_iff]at hx
   obtain⟨⟨x1,s2⟩,hx2,hx3⟩:=hx
   cases hx3
   obtain⟨KB,e11,l11,-⟩:=l10.take_yes hE c11
   have l12:=l11.put (sc8 15 tk.at_ ByteArray.empty nl nl nl nl nl)
   obtain⟨KD,a1,a2,a3,a4,a5,a6,e16,h6,l16,g16,t16,q16,-⟩:=l12.expr hE hx2 h0 h24
   have l17:=l16.put (sc8 15 tk.at_ ByteArray.empty (.slice (some ⟨KD.n,0,none⟩) 1 1) nl nl nl nl)
   have q17:=l16.fld_put q16 (.row true 0 1 (sc8 15 tk.at_ ByteArray.empty (.slice (some ⟨KD.n,0,none⟩) 1 1) nl nl nl nl))
   have hq:=RS.put (kind:=15) (at_:=tk.at_) (name:=ByteArray.empty) q17 (repStm.G_nil _ _) (repStm.G_nil _ _) (repBra.G_nil _ _) (repItm.G_nil _ _)
   have g11:=l11.get
   have t11:=l11.lt
   have hz1:KD.get H.n = .row true 0 1 z8∧H.n<KD.n:=⟨by have:=(hz l16).1;rwa [Heap.get_push,if_neg (by omega)]at this,by omega⟩
   simp only[tWrite,z8,sc8,nl]at e11 g11 e16 g16 hz1 l17 hq
   simp[Tryz.f64,eA,d1,e1,e2,e3,e4,e5,cP,e6,cV,e7,e8,e9,e10,e11,g11,t11,e16,h6,g16,t16,hz1,hne1,hne2]
   exact l17.ret hr hl hq _
 rw[if_neg c11]at hx
 have c11':isP L s tWrite=false:=by simpa using c11
 obtain⟨KB,e11,l11,-⟩:=l10.take_no hE c11'
 cases hx
 obtain⟨KC,e12,l12,-⟩:=l11.fault hE 14
 have hq:=RS.put (H:=KC) (S:=fun i=>HA.n+1<i) (kind:=0) (at_:=tk.at_) (name:=ByteArray.empty) (repEx.G_nil _ _) (repStm.G_nil _ _) (repStm.G_nil _ _) (repBra.G_nil _ _) (repItm.G_nil _ _)
 have g12:=l12.get
 have hz1:=hz l12
 simp only[tWrite,z8,sc8,nl]at e11 e12 g12 hz1 l12 hq
 simp[Tryz.f64,eA,d1,e1,e2,e3,e4,e5,cP,e6,cV,e7,e8,e9,e10,e11,e12,g12,hz1,hne1,hne2]
 exact l12.ret hr hl hq _
end
end Go.Vm.Parse
