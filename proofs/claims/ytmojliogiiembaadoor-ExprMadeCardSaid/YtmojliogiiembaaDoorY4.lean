/- What is proved: the facts of the program's types, as the machine asks for them. What is defined and proved: a reader of tokens, in plain words; what its small steps hand back, and what they turn. What is proved: what a reader's small steps hand back, and what they turn. What is defined and proved: the reader of expressions in plain words; which sign of a row stands at a place. What is defined and proved: expressions in plain words, and in the heap; a reader of expressions, in plain words. What is proved: what the reader's 'row' hands back. What is proved: what the reader's 'index' and 'fact' hand back; so what each reading of an expression does. What is defined and proved: the program's reader of expressions, in the heap; its small steps. What is proved: the program's reader of expressions: which sign of a row stands at a place; a level deeper. What is proved: the program's reader of expressions: a level deeper; a sign and what it stands ahead of. What is proved: reading goes on; the reader of expressions answers, given steps enough. What is proved: the program's reader of expressions: a row of signs. What is proved: the program's reader of expressions: the rows one by one. -/
import Derived.Test.YtmojliogiiembaaDoorY3
import Derived.Test.YtmojliogiiembaaDoorProg
set_option maxRecDepth 100000
set_option maxHeartbeats 4000000
set_option linter.unusedSimpArgs false
set_option linter.unusedVariables false
set_option linter.unusedSectionVars false
namespace Go.Vm
open Go.Proofs
@[simp] theorem size0:sizeT Tryd.prog 0=some 1:=by kernel_rfl
@[simp] theorem bytes0:bytesT Tryd.prog 0=some 0:=by kernel_rfl
@[simp] theorem agg0:aggT Tryd.prog 0=some false:=by kernel_rfl
@[simp] theorem kind0:kindT Tryd.prog 0=some .other:=by kernel_rfl
@[simp] theorem size1:sizeT Tryd.prog 1=some 1:=by kernel_rfl
@[simp] theorem bytes1:bytesT Tryd.prog 1=some 8:=by kernel_rfl
@[simp] theorem agg1:aggT Tryd.prog 1=some false:=by kernel_rfl
@[simp] theorem kind1:kindT Tryd.prog 1=some .func:=by kernel_rfl
@[simp] theorem zero1:zeroT Tryd.prog 1=some (.nilFunc):=by kernel_rfl
@[simp] theorem size2:sizeT Tryd.prog 2=some 1:=by kernel_rfl
@[simp] theorem bytes2:bytesT Tryd.prog 2=some 8:=by kernel_rfl
@[simp] theorem agg2:aggT Tryd.prog 2=some false:=by kernel_rfl
@[simp] theorem kind2:kindT Tryd.prog 2=some (.int .i64):=by kernel_rfl
@[simp] theorem zero2:zeroT Tryd.prog 2=some (.int .i64 0):=by kernel_rfl
@[simp] theorem size3:sizeT Tryd.prog 3=some 1:=by kernel_rfl
@[simp] theorem bytes3:bytesT Tryd.prog 3=some 8:=by kernel_rfl
@[simp] theorem agg3:aggT Tryd.prog 3=some false:=by kernel_rfl
@[simp] theorem kind3:kindT Tryd.prog 3=some (.int .i64):=by kernel_rfl
@[simp] theorem zero3:zeroT Tryd.prog 3=some (.int .i64 0):=by kernel_rfl
@[simp] theorem size4:sizeT Tryd.prog 4=some 1:=by kernel_rfl
@[simp] theorem bytes4:bytesT Tryd.prog 4=some 1:=by kernel_rfl
@[simp] theorem agg4:aggT Tryd.prog 4=some false:=by kernel_rfl
@[simp] theorem kind4:kindT Tryd.prog 4=some .bool:=by kernel_rfl
@[simp] theorem zero4:zeroT Tryd.prog 4=some (.bool false):=by kernel_rfl
@[simp] theorem size5:sizeT Tryd.prog 5=some 1:=by kernel_rfl
@[simp] theorem bytes5:bytesT Tryd.prog 5=some 1:=by kernel_rfl
@[simp] theorem agg5:aggT Tryd.prog 5=some false:=by kernel_rfl
@[simp] theorem kind5:kindT Tryd.prog 5=some (.int .u8):=by kernel_rfl
@[simp] theorem zero5:zeroT Tryd.prog 5=some (.int .u8 0):=by kernel_rfl
@[simp] theorem size6:sizeT Tryd.prog 6=some 1:=by kernel_rfl
@[simp] theorem bytes6:bytesT Tryd.prog 6=some 1:=by kernel_rfl
@[simp] theorem agg6:aggT Tryd.prog 6=some false:=by kernel_rfl
@[simp] theorem kind6:kindT Tryd.prog 6=some (.int .u8):=by kernel_rfl
@[simp] theorem zero6:zeroT Tryd.prog 6=some (.int .u8 0):=by kernel_rfl
@[simp] theorem size7:sizeT Tryd.prog 7=some 4:=by kernel_rfl
@[simp] theorem bytes7:bytesT Tryd.prog 7=some 24:=by kernel_rfl
@[simp] theorem agg7:aggT Tryd.prog 7=some true:=by kernel_rfl
@[simp] theorem kind7:kindT Tryd.prog 7=some .struct:=by kernel_rfl
@[simp] theorem field7_0:fieldT Tryd.prog 7 0=some (0,1,2):=by kernel_rfl
@[simp] theorem field7_1:fieldT Tryd.prog 7 1=some (1,1,3):=by kernel_rfl
@[simp] theorem field7_2:fieldT Tryd.prog 7 2=some (2,1,4):=by kernel_rfl
@[simp] theorem field7_3:fieldT Tryd.prog 7 3=some (3,1,6):=by kernel_rfl
@[simp] theorem places7:placesT Tryd.prog 7=some [(0,1),(1,1),(2,1),(3,1)]:=by kernel_rfl
@[simp] theorem zero7:zeroT Tryd.prog 7=some (.agg #[.int .i64 0,.int .i64 0,.bool false,.int .u8 0]):=by kernel_rfl
@[simp] theorem size8:sizeT Tryd.prog 8=some 4:=by kernel_rfl
@[simp] theorem bytes8:bytesT Tryd.prog 8=some 24:=by kernel_rfl
@[simp] theorem agg8:aggT Tryd.prog 8=some true:=by kernel_rfl
@[simp] theorem kind8:kindT Tryd.prog 8=some .struct:=by kernel_rfl
@[simp] theorem field8_0:fieldT Tryd.prog 8 0=some (0,1,2):=by kernel_rfl
@[simp] theorem field8_1:fieldT Tryd.prog 8 1=some (1,1,3):=by kernel_rfl
@[simp] theorem field8_2:fieldT Tryd.prog 8 2=some (2,1,4):=by kernel_rfl
@[simp] theorem field8_3:fieldT Tryd.prog 8 3=some (3,1,6):=by kernel_rfl
@[simp] theorem places8:placesT Tryd.prog 8=some [(0,1),(1,1),(2,1),(3,1)]:=by kernel_rfl
@[simp] theorem zero8:zeroT Tryd.prog 8=some (.agg #[.int .i64 0,.int .i64 0,.bool false,.int .u8 0]):=by kernel_rfl
@[simp] theorem size9:sizeT Tryd.prog 9=some 1:=by kernel_rfl
@[simp] theorem bytes9:bytesT Tryd.prog 9=some 16:=by kernel_rfl
@[simp] theorem agg9:aggT Tryd.prog 9=some false:=by kernel_rfl
@[simp] theorem kind9:kindT Tryd.prog 9=some .string:=by kernel_rfl
@[simp] theorem zero9 : zeroT Tryd.prog 9 = some (.string "".toByteArray) := by kernel_rfl
@[simp] theorem size10:sizeT Tryd.prog 10=some 1:=by kernel_rfl
@[simp] theorem bytes10:bytesT Tryd.prog 10=some 16:=by kernel_rfl
@[simp] theorem agg10:aggT Tryd.prog 10=some false:=by kernel_rfl
@[simp] theorem kind10:kindT Tryd.prog 10=some .string:=by kernel_rfl
@[simp] theorem zero10 : zeroT Tryd.prog 10 = some (.string "".toByteArray) := by kernel_rfl
@[simp] theorem size11:sizeT Tryd.prog 11=some 1:=by kernel_rfl
@[simp] theorem bytes11:bytesT Tryd.prog 11=some 16:=by kernel_rfl
@[simp] theorem agg11:aggT Tryd.prog 11=some false:=by kernel_rfl
@[simp] theorem kind11:kindT Tryd.prog 11=some .string:=by kernel_rfl
@[simp] theorem zero11 : zeroT Tryd.prog 11 = some (.string "".toByteArray) := by kernel_rfl
@[simp] theorem size12:sizeT Tryd.prog 12=some 1:=by kernel_rfl
@[simp] theorem bytes12:bytesT Tryd.prog 12=some 8:=by kernel_rfl
@[simp] theorem agg12:aggT Tryd.prog 12=some false:=by kernel_rfl
@[simp] theorem kind12:kindT Tryd.prog 12=some (.int .u64):=by kernel_rfl
@[simp] theorem zero12:zeroT Tryd.prog 12=some (.int .u64 0):=by kernel_rfl
@[simp] theorem size13:sizeT Tryd.prog 13=some 2:=by kernel_rfl
@[simp] theorem bytes13:bytesT Tryd.prog 13=some 24:=by kernel_rfl
@[simp] theorem agg13:aggT Tryd.prog 13=some true:=by kernel_rfl
@[simp] theorem kind13:kindT Tryd.prog 13=some .struct:=by kernel_rfl
@[simp] theorem field13_0:fieldT Tryd.prog 13 0=some (0,1,9):=by kernel_rfl
@[simp] theorem field13_1:fieldT Tryd.prog 13 1=some (1,1,12):=by kernel_rfl
@[simp] theorem places13:placesT Tryd.prog 13=some [(0,1),(1,1)]:=by kernel_rfl
@[simp] theorem zero13 : zeroT Tryd.prog 13 = some (.agg #[.string "".toByteArray, .int .u64 0]) := by kernel_rfl
@[simp] theorem size14:sizeT Tryd.prog 14=some 2:=by kernel_rfl
@[simp] theorem bytes14:bytesT Tryd.prog 14=some 24:=by kernel_rfl
@[simp] theorem agg14:aggT Tryd.prog 14=some true:=by kernel_rfl
@[simp] theorem kind14:kindT Tryd.prog 14=some .struct:=by kernel_rfl
@[simp] theorem field14_0:fieldT Tryd.prog 14 0=some (0,1,9):=by kernel_rfl
@[simp] theorem field14_1:fieldT Tryd.prog 14 1=some (1,1,12):=by kernel_rfl
@[simp] theorem places14:placesT Tryd.prog 14=some [(0,1),(1,1)]:=by kernel_rfl
@[simp] theorem zero14 : zeroT Tryd.prog 14 = some (.agg #[.string "".toByteArray, .int .u64 0]) := by kernel_rfl
@[simp] theorem size15:sizeT Tryd.prog 15=some 1:=by kernel_rfl
@[simp] theorem bytes15:bytesT Tryd.prog 15=some 8:=by kernel_rfl
@[simp] theorem agg15:aggT Tryd.prog 15=some false:=by kernel_rfl
@[simp] theorem kind15:kindT Tryd.prog 15=some .ptr:=by kernel_rfl
@[simp] theorem zero15:zeroT Tryd.prog 15=some (.pointer none):=by kernel_rfl
@[simp] theorem size16:sizeT Tryd.prog 16=some 1:=by kernel_rfl
@[simp] theorem bytes16:bytesT Tryd.prog 16=some 8:=by kernel_rfl
@[simp] theorem agg16:aggT Tryd.prog 16=some false:=by kernel_rfl
@[simp] theorem kind16:kindT Tryd.prog 16=some .ptr:=by kernel_rfl
@[simp] theorem zero16:zeroT Tryd.prog 16=some (.pointer none):=by kernel_rfl
@[simp] theorem size17:sizeT Tryd.prog 17=some 1:=by kernel_rfl
@[simp] theorem bytes17:bytesT Tryd.prog 17=some 8:=by kernel_rfl
@[simp] theorem agg17:aggT Tryd.prog 17=some false:=by kernel_rfl
@[simp] theorem kind17:kindT Tryd.prog 17=some .ptr:=by kernel_rfl
@[simp] theorem zero17:zeroT Tryd.prog 17=some (.pointer none):=by kernel_rfl
@[simp] theorem size18:sizeT Tryd.prog 18=some 1:=by kernel_rfl
@[simp] theorem bytes18:bytesT Tryd.prog 18=some 8:=by kernel_rfl
@[simp] theorem agg18:aggT Tryd.prog 18=some true:=by kernel_rfl
@[simp] theorem kind18:kindT Tryd.prog 18=some .struct:=by kernel_rfl
@[simp] theorem field18_0:fieldT Tryd.prog 18 0=some (0,1,17):=by kernel_rfl
@[simp] theorem places18:placesT Tryd.prog 18=some [(0,1)]:=by kernel_rfl
@[simp] theorem zero18:zeroT Tryd.prog 18=some (.agg #[.pointer none]):=by kernel_rfl
@[simp] theorem size19:sizeT Tryd.prog 19=some 1:=by kernel_rfl
@[simp] theorem bytes19:bytesT Tryd.prog 19=some 8:=by kernel_rfl
@[simp] theorem agg19:aggT Tryd.prog 19=some true:=by kernel_rfl
@[simp] theorem kind19:kindT Tryd.prog 19=some .struct:=by kernel_rfl
@[simp] theorem field19_0:fieldT Tryd.prog 19 0=some (0,1,17):=by kernel_rfl
@[simp] theorem places19:placesT Tryd.prog 19=some [(0,1)]:=by kernel_rfl
@[simp] theorem zero19:zeroT Tryd.prog 19=some (.agg #[.pointer none]):=by kernel_rfl
@[simp] theorem size20:sizeT Tryd.prog 20=some 1:=by kernel_rfl
@[simp] theorem bytes20:bytesT Tryd.prog 20=some 16:=by kernel_rfl
@[simp] theorem agg20:aggT Tryd.prog 20=some false:=by kernel_rfl
@[simp] theorem kind20:kindT Tryd.prog 20=some .iface:=by kernel_rfl
@[simp] theorem zero20:zeroT Tryd.prog 20=some (.nilIface):=by kernel_rfl
@[simp] theorem size21:sizeT Tryd.prog 21=some 1:=by kernel_rfl
@[simp] theorem bytes21:bytesT Tryd.prog 21=some 4:=by kernel_rfl
@[simp] theorem agg21:aggT Tryd.prog 21=some false:=by kernel_rfl
@[simp] theorem kind21:kindT Tryd.prog 21=some (.int .i32):=by kernel_rfl
@[simp] theorem zero21:zeroT Tryd.prog 21=some (.int .i32 0):=by kernel_rfl
@[simp] theorem size22:sizeT Tryd.prog 22=some 1:=by kernel_rfl
@[simp] theorem bytes22:bytesT Tryd.prog 22=some 24:=by kernel_rfl
@[simp] theorem agg22:aggT Tryd.prog 22=some false:=by kernel_rfl
@[simp] theorem kind22:kindT Tryd.prog 22=some .slice:=by kernel_rfl
@[simp] theorem elem22:elemT Tryd.prog 22=some 3:=by kernel_rfl
@[simp] theorem zero22:zeroT Tryd.prog 22=some (.slice none 0 0):=by kernel_rfl
@[simp] theorem size23:sizeT Tryd.prog 23=some 1:=by kernel_rfl
@[simp] theorem bytes23:bytesT Tryd.prog 23=some 24:=by kernel_rfl
@[simp] theorem agg23:aggT Tryd.prog 23=some false:=by kernel_rfl
@[simp] theorem kind23:kindT Tryd.prog 23=some .slice:=by kernel_rfl
@[simp] theorem elem23:elemT Tryd.prog 23=some 5:=by kernel_rfl
@[simp] theorem zero23:zeroT Tryd.prog 23=some (.slice none 0 0):=by kernel_rfl
@[simp] theorem size24:sizeT Tryd.prog 24=some 1:=by kernel_rfl
@[simp] theorem bytes24:bytesT Tryd.prog 24=some 8:=by kernel_rfl
@[simp] theorem agg24:aggT Tryd.prog 24=some false:=by kernel_rfl
@[simp] theorem kind24:kindT Tryd.prog 24=some .func:=by kernel_rfl
@[simp] theorem zero24:zeroT Tryd.prog 24=some (.nilFunc):=by kernel_rfl
@[simp] theorem size25:sizeT Tryd.prog 25=some 1:=by kernel_rfl
@[simp] theorem bytes25:bytesT Tryd.prog 25=some 24:=by kernel_rfl
@[simp] theorem agg25:aggT Tryd.prog 25=some false:=by kernel_rfl
@[simp] theorem kind25:kindT Tryd.prog 25=some .slice:=by kernel_rfl
@[simp] theorem elem25:elemT Tryd.prog 25=some 44:=by kernel_rfl
@[simp] theorem zero25:zeroT Tryd.prog 25=some (.slice none 0 0):=by kernel_rfl
@[simp] theorem size26:sizeT Tryd.prog 26=some 1:=by kernel_rfl
@[simp] theorem bytes26:bytesT Tryd.prog 26=some 8:=by kernel_rfl
@[simp] theorem agg26:aggT Tryd.prog 26=some false:=by kernel_rfl
@[simp] theorem kind26:kindT Tryd.prog 26=some (.int .i64):=by kernel_rfl
@[simp] theorem zero26:zeroT Tryd.prog 26=some (.int .i64 0):=by kernel_rfl
@[simp] theorem size27:sizeT Tryd.prog 27=some 2:=by kernel_rfl
@[simp] theorem bytes27:bytesT Tryd.prog 27=some 16:=by kernel_rfl
@[simp] theorem agg27:aggT Tryd.prog 27=some true:=by kernel_rfl
@[simp] theorem kind27:kindT Tryd.prog 27=some .struct:=by kernel_rfl
@[simp] theorem field27_0:fieldT Tryd.prog 27 0=some (0,1,26):=by kernel_rfl
@[simp] theorem field27_1:fieldT Tryd.prog 27 1=some (1,1,3):=by kernel_rfl
@[simp] theorem places27:placesT Tryd.prog 27=some [(0,1),(1,1)]:=by kernel_rfl
@[simp] theorem zero27:zeroT Tryd.prog 27=some (.agg #[.int .i64 0,.int .i64 0]):=by kernel_rfl
@[simp] theorem size28:sizeT Tryd.prog 28=some 2:=by kernel_rfl
@[simp] theorem bytes28:bytesT Tryd.prog 28=some 16:=by kernel_rfl
@[simp] theorem agg28:aggT Tryd.prog 28=some true:=by kernel_rfl
@[simp] theorem kind28:kindT Tryd.prog 28=some .struct:=by kernel_rfl
@[simp] theorem field28_0:fieldT Tryd.prog 28 0=some (0,1,26):=by kernel_rfl
@[simp] theorem field28_1:fieldT Tryd.prog 28 1=some (1,1,3):=by kernel_rfl
@[simp] theorem places28:placesT Tryd.prog 28=some [(0,1),(1,1)]:=by kernel_rfl
@[simp] theorem zero28:zeroT Tryd.prog 28=some (.agg #[.int .i64 0,.int .i64 0]):=by kernel_rfl
@[simp] theorem size29:sizeT Tryd.prog 29=some 1:=by kernel_rfl
@[simp] theorem bytes29:bytesT Tryd.prog 29=some 0:=by kernel_rfl
@[simp] theorem agg29:aggT Tryd.prog 29=some false:=by kernel_rfl
@[simp] theorem kind29:kindT Tryd.prog 29=some .other:=by kernel_rfl
@[simp] theorem size30:sizeT Tryd.prog 30=some 1:=by kernel_rfl
@[simp] theorem bytes30:bytesT Tryd.prog 30=some 8:=by kernel_rfl
@[simp] theorem agg30:aggT Tryd.prog 30=some false:=by kernel_rfl
@[simp] theorem kind30:kindT Tryd.prog 30=some .func:=by kernel_rfl
@[simp] theorem zero30:zeroT Tryd.prog 30=some (.nilFunc):=by kernel_rfl
@[simp] theorem size31:sizeT Tryd.prog 31=some 1:=by kernel_rfl
@[simp] theorem bytes31:bytesT Tryd.prog 31=some 8:=by kernel_rfl
@[simp] theorem agg31:aggT Tryd.prog 31=some false:=by kernel_rfl
@[simp] theorem kind31:kindT Tryd.prog 31=some .func:=by kernel_rfl
@[simp] theorem zero31:zeroT Tryd.prog 31=some (.nilFunc):=by kernel_rfl
@[simp] theorem size32:sizeT Tryd.prog 32=some 1:=by kernel_rfl
@[simp] theorem bytes32:bytesT Tryd.prog 32=some 8:=by kernel_rfl
@[simp] theorem agg32:aggT Tryd.prog 32=some false:=by kernel_rfl
@[simp] theorem kind32:kindT Tryd.prog 32=some .func:=by kernel_rfl
@[simp] theorem zero32:zeroT Tryd.prog 32=some (.nilFunc):=by kernel_rfl
@[simp] theorem size33:sizeT Tryd.prog 33=some 1:=by kernel_rfl
@[simp] theorem bytes33:bytesT Tryd.prog 33=some 8:=by kernel_rfl
@[simp] theorem agg33:aggT Tryd.prog 33=some false:=by kernel_rfl
@[simp] theorem kind33:kindT Tryd.prog 33=some .func:=by kernel_rfl
@[simp] theorem zero33:zeroT Tryd.prog 33=some (.nilFunc):=by kernel_rfl
@[simp] theorem size34:sizeT Tryd.prog 34=some 1:=by kernel_rfl
@[simp] theorem bytes34:bytesT Tryd.prog 34=some 8:=by kernel_rfl
@[simp] theorem agg34:aggT Tryd.prog 34=some false:=by kernel_rfl
@[simp] theorem kind34:kindT Tryd.prog 34=some .func:=by kernel_rfl
@[simp] theorem zero34:zeroT Tryd.prog 34=some (.nilFunc):=by kernel_rfl
@[simp] theorem size35:sizeT Tryd.prog 35=some 1:=by kernel_rfl
@[simp] theorem bytes35:bytesT Tryd.prog 35=some 8:=by kernel_rfl
@[simp] theorem agg35:aggT Tryd.prog 35=some false:=by kernel_rfl
@[simp] theorem kind35:kindT Tryd.prog 35=some .func:=by kernel_rfl
@[simp] theorem zero35:zeroT Tryd.prog 35=some (.nilFunc):=by kernel_rfl
@[simp] theorem size36:sizeT Tryd.prog 36=some 1:=by kernel_rfl
@[simp] theorem bytes36:bytesT Tryd.prog 36=some 8:=by kernel_rfl
@[simp] theorem agg36:aggT Tryd.prog 36=some false:=by kernel_rfl
@[simp] theorem kind36:kindT Tryd.prog 36=some .func:=by kernel_rfl
@[simp] theorem zero36:zeroT Tryd.prog 36=some (.nilFunc):=by kernel_rfl
@[simp] theorem size37:sizeT Tryd.prog 37=some 1:=by kernel_rfl
@[simp] theorem bytes37:bytesT Tryd.prog 37=some 8:=by kernel_rfl
@[simp] theorem agg37:aggT Tryd.prog 37=some false:=by kernel_rfl
@[simp] theorem kind37:kindT Tryd.prog 37=some .func:=by kernel_rfl
@[simp] theorem zero37:zeroT Tryd.prog 37=some (.nilFunc):=by kernel_rfl
@[simp] theorem size38:sizeT Tryd.prog 38=some 1:=by kernel_rfl
@[simp] theorem bytes38:bytesT Tryd.prog 38=some 24:=by kernel_rfl
@[simp] theorem agg38:aggT Tryd.prog 38=some false:=by kernel_rfl
@[simp] theorem kind38:kindT Tryd.prog 38=some .slice:=by kernel_rfl
@[simp] theorem elem38:elemT Tryd.prog 38=some 40:=by kernel_rfl
@[simp] theorem zero38:zeroT Tryd.prog 38=some (.slice none 0 0):=by kernel_rfl
@[simp] theorem size39:sizeT Tryd.prog 39=some 6:=by kernel_rfl
@[simp] theorem bytes39:bytesT Tryd.prog 39=some 72:=by kernel_rfl
@[simp] theorem agg39:aggT Tryd.prog 39=some true:=by kernel_rfl
@[simp] theorem kind39:kindT Tryd.prog 39=some .struct:=by kernel_rfl
@[simp] theorem field39_0:fieldT Tryd.prog 39 0=some (0,1,3):=by kernel_rfl
@[simp] theorem field39_1:fieldT Tryd.prog 39 1=some (1,1,3):=by kernel_rfl
@[simp] theorem field39_2:fieldT Tryd.prog 39 2=some (2,1,3):=by kernel_rfl
@[simp] theorem field39_3:fieldT Tryd.prog 39 3=some (3,1,3):=by kernel_rfl
@[simp] theorem field39_4:fieldT Tryd.prog 39 4=some (4,1,9):=by kernel_rfl
@[simp] theorem field39_5:fieldT Tryd.prog 39 5=some (5,1,38):=by kernel_rfl
@[simp] theorem places39:placesT Tryd.prog 39=some [(0,1),(1,1),(2,1),(3,1),(4,1),(5,1)]:=by kernel_rfl
@[simp] theorem zero39 : zeroT Tryd.prog 39 = some (.agg #[.int .i64 0, .int .i64 0, .int .i64 0, .int .i64 0, .string "".toByteArray, .slice none 0 0]) := by kernel_rfl
@[simp] theorem size40:sizeT Tryd.prog 40=some 6:=by kernel_rfl
@[simp] theorem bytes40:bytesT Tryd.prog 40=some 72:=by kernel_rfl
@[simp] theorem agg40:aggT Tryd.prog 40=some true:=by kernel_rfl
@[simp] theorem kind40:kindT Tryd.prog 40=some .struct:=by kernel_rfl
@[simp] theorem field40_0:fieldT Tryd.prog 40 0=some (0,1,3):=by kernel_rfl
@[simp] theorem field40_1:fieldT Tryd.prog 40 1=some (1,1,3):=by kernel_rfl
@[simp] theorem field40_2:fieldT Tryd.prog 40 2=some (2,1,3):=by kernel_rfl
@[simp] theorem field40_3:fieldT Tryd.prog 40 3=some (3,1,3):=by kernel_rfl
@[simp] theorem field40_4:fieldT Tryd.prog 40 4=some (4,1,9):=by kernel_rfl
@[simp] theorem field40_5:fieldT Tryd.prog 40 5=some (5,1,38):=by kernel_rfl
@[simp] theorem places40:placesT Tryd.prog 40=some [(0,1),(1,1),(2,1),(3,1),(4,1),(5,1)]:=by kernel_rfl
@[simp] theorem zero40 : zeroT Tryd.prog 40 = some (.agg #[.int .i64 0, .int .i64 0, .int .i64 0, .int .i64 0, .string "".toByteArray, .slice none 0 0]) := by kernel_rfl
@[simp] theorem size41:sizeT Tryd.prog 41=some 1:=by kernel_rfl
@[simp] theorem bytes41:bytesT Tryd.prog 41=some 0:=by kernel_rfl
@[simp] theorem agg41:aggT Tryd.prog 41=some false:=by kernel_rfl
@[simp] theorem kind41:kindT Tryd.prog 41=some .other:=by kernel_rfl
@[simp] theorem size42:sizeT Tryd.prog 42=some 1:=by kernel_rfl
@[simp] theorem bytes42:bytesT Tryd.prog 42=some 8:=by kernel_rfl
@[simp] theorem agg42:aggT Tryd.prog 42=some false:=by kernel_rfl
@[simp] theorem kind42:kindT Tryd.prog 42=some .func:=by kernel_rfl
@[simp] theorem zero42:zeroT Tryd.prog 42=some (.nilFunc):=by kernel_rfl
@[simp] theorem size43:sizeT Tryd.prog 43=some 4:=by kernel_rfl
@[simp] theorem bytes43:bytesT Tryd.prog 43=some 40:=by kernel_rfl
@[simp] theorem agg43:aggT Tryd.prog 43=some true:=by kernel_rfl
@[simp] theorem kind43:kindT Tryd.prog 43=some .struct:=by kernel_rfl
@[simp] theorem field43_0:fieldT Tryd.prog 43 0=some (0,1,3):=by kernel_rfl
@[simp] theorem field43_1:fieldT Tryd.prog 43 1=some (1,1,3):=by kernel_rfl
@[simp] theorem field43_2:fieldT Tryd.prog 43 2=some (2,1,3):=by kernel_rfl
@[simp] theorem field43_3:fieldT Tryd.prog 43 3=some (3,1,9):=by kernel_rfl
@[simp] theorem places43:placesT Tryd.prog 43=some [(0,1),(1,1),(2,1),(3,1)]:=by kernel_rfl
@[simp] theorem zero43 : zeroT Tryd.prog 43 = some (.agg #[.int .i64 0, .int .i64 0, .int .i64 0, .string "".toByteArray]) := by kernel_rfl
@[simp] theorem size44:sizeT Tryd.prog 44=some 4:=by kernel_rfl
@[simp] theorem bytes44:bytesT Tryd.prog 44=some 40:=by kernel_rfl
@[simp] theorem agg44:aggT Tryd.prog 44=some true:=by kernel_rfl
@[simp] theorem kind44:kindT Tryd.prog 44=some .struct:=by kernel_rfl
@[simp] theorem field44_0:fieldT Tryd.prog 44 0=some (0,1,3):=by kernel_rfl
@[simp] theorem field44_1:fieldT Tryd.prog 44 1=some (1,1,3):=by kernel_rfl
@[simp] theorem field44_2:fieldT Tryd.prog 44 2=some (2,1,3):=by kernel_rfl
@[simp] theorem field44_3:fieldT Tryd.prog 44 3=some (3,1,9):=by kernel_rfl
@[simp] theorem places44:placesT Tryd.prog 44=some [(0,1),(1,1),(2,1),(3,1)]:=by kernel_rfl
@[simp] theorem zero44 : zeroT Tryd.prog 44 = some (.agg #[.int .i64 0, .int .i64 0, .int .i64 0, .string "".toByteArray]) := by kernel_rfl
@[simp] theorem size45:sizeT Tryd.prog 45=some 1:=by kernel_rfl
@[simp] theorem bytes45:bytesT Tryd.prog 45=some 8:=by kernel_rfl
@[simp] theorem agg45:aggT Tryd.prog 45=some false:=by kernel_rfl
@[simp] theorem kind45:kindT Tryd.prog 45=some .func:=by kernel_rfl
@[simp] theorem zero45:zeroT Tryd.prog 45=some (.nilFunc):=by kernel_rfl
@[simp] theorem size46:sizeT Tryd.prog 46=some 1:=by kernel_rfl
@[simp] theorem bytes46:bytesT Tryd.prog 46=some 8:=by kernel_rfl
@[simp] theorem agg46:aggT Tryd.prog 46=some false:=by kernel_rfl
@[simp] theorem kind46:kindT Tryd.prog 46=some .func:=by kernel_rfl
@[simp] theorem zero46:zeroT Tryd.prog 46=some (.nilFunc):=by kernel_rfl
@[simp] theorem size47:sizeT Tryd.prog 47=some 1:=by kernel_rfl
@[simp] theorem bytes47:bytesT Tryd.prog 47=some 0:=by kernel_rfl
@[simp] theorem agg47:aggT Tryd.prog 47=some false:=by kernel_rfl
@[simp] theorem kind47:kindT Tryd.prog 47=some .other:=by kernel_rfl
@[simp] theorem size48:sizeT Tryd.prog 48=some 1:=by kernel_rfl
@[simp] theorem bytes48:bytesT Tryd.prog 48=some 8:=by kernel_rfl
@[simp] theorem agg48:aggT Tryd.prog 48=some false:=by kernel_rfl
@[simp] theorem kind48:kindT Tryd.prog 48=some .func:=by kernel_rfl
@[simp] theorem zero48:zeroT Tryd.prog 48=some (.nilFunc):=by kernel_rfl
@[simp] theorem size49:sizeT Tryd.prog 49=some 1:=by kernel_rfl
@[simp] theorem bytes49:bytesT Tryd.prog 49=some 8:=by kernel_rfl
@[simp] theorem agg49:aggT Tryd.prog 49=some false:=by kernel_rfl
@[simp] theorem kind49:kindT Tryd.prog 49=some .func:=by kernel_rfl
@[simp] theorem zero49:zeroT Tryd.prog 49=some (.nilFunc):=by kernel_rfl
@[simp] theorem size50:sizeT Tryd.prog 50=some 1:=by kernel_rfl
@[simp] theorem bytes50:bytesT Tryd.prog 50=some 8:=by kernel_rfl
@[simp] theorem agg50:aggT Tryd.prog 50=some false:=by kernel_rfl
@[simp] theorem kind50:kindT Tryd.prog 50=some .func:=by kernel_rfl
@[simp] theorem zero50:zeroT Tryd.prog 50=some (.nilFunc):=by kernel_rfl
@[simp] theorem size51:sizeT Tryd.prog 51=some 1:=by kernel_rfl
@[simp] theorem bytes51:bytesT Tryd.prog 51=some 8:=by kernel_rfl
@[simp] theorem agg51:aggT Tryd.prog 51=some false:=by kernel_rfl
@[simp] theorem kind51:kindT Tryd.prog 51=some .func:=by kernel_rfl
@[simp] theorem zero51:zeroT Tryd.prog 51=some (.nilFunc):=by kernel_rfl
@[simp] theorem size52:sizeT Tryd.prog 52=some 1:=by kernel_rfl
@[simp] theorem bytes52:bytesT Tryd.prog 52=some 8:=by kernel_rfl
@[simp] theorem agg52:aggT Tryd.prog 52=some false:=by kernel_rfl
@[simp] theorem kind52:kindT Tryd.prog 52=some .func:=by kernel_rfl
@[simp] theorem zero52:zeroT Tryd.prog 52=some (.nilFunc):=by kernel_rfl
@[simp] theorem size53:sizeT Tryd.prog 53=some 1:=by kernel_rfl
@[simp] theorem bytes53:bytesT Tryd.prog 53=some 8:=by kernel_rfl
@[simp] theorem agg53:aggT Tryd.prog 53=some false:=by kernel_rfl
@[simp] theorem kind53:kindT Tryd.prog 53=some .func:=by kernel_rfl
@[simp] theorem zero53:zeroT Tryd.prog 53=some (.nilFunc):=by kernel_rfl
@[simp] theorem size54:sizeT Tryd.prog 54=some 1:=by kernel_rfl
@[simp] theorem bytes54:bytesT Tryd.prog 54=some 24:=by kernel_rfl
@[simp] theorem agg54:aggT Tryd.prog 54=some false:=by kernel_rfl
@[simp] theorem kind54:kindT Tryd.prog 54=some .slice:=by kernel_rfl
@[simp] theorem elem54:elemT Tryd.prog 54=some 83:=by kernel_rfl
@[simp] theorem zero54:zeroT Tryd.prog 54=some (.slice none 0 0):=by kernel_rfl
@[simp] theorem size55:sizeT Tryd.prog 55=some 1:=by kernel_rfl
@[simp] theorem bytes55:bytesT Tryd.prog 55=some 24:=by kernel_rfl
@[simp] theorem agg55:aggT Tryd.prog 55=some false:=by kernel_rfl
@[simp] theorem kind55:kindT Tryd.prog 55=some .slice:=by kernel_rfl
@[simp] theorem elem55:elemT Tryd.prog 55=some 86:=by kernel_rfl
@[simp] theorem zero55:zeroT Tryd.prog 55=some (.slice none 0 0):=by kernel_rfl
@[simp] theorem size56:sizeT Tryd.prog 56=some 1:=by kernel_rfl
@[simp] theorem bytes56:bytesT Tryd.prog 56=some 24:=by kernel_rfl
@[simp] theorem agg56:aggT Tryd.prog 56=some false:=by kernel_rfl
@[simp] theorem kind56:kindT Tryd.prog 56=some .slice:=by kernel_rfl
@[simp] theorem elem56:elemT Tryd.prog 56=some 143:=by kernel_rfl
@[simp] theorem zero56:zeroT Tryd.prog 56=some (.slice none 0 0):=by kernel_rfl
@[simp] theorem size57:sizeT Tryd.prog 57=some 1:=by kernel_rfl
@[simp] theorem bytes57:bytesT Tryd.prog 57=some 24:=by kernel_rfl
@[simp] theorem agg57:aggT Tryd.prog 57=some false:=by kernel_rfl
@[simp] theorem kind57:kindT Tryd.prog 57=some .slice:=by kernel_rfl
@[simp] theorem elem57:elemT Tryd.prog 57=some 146:=by kernel_rfl
@[simp] theorem zero57:zeroT Tryd.prog 57=some (.slice none 0 0):=by kernel_rfl
@[simp] theorem size58:sizeT Tryd.prog 58=some 5:=by kernel_rfl
@[simp] theorem bytes58:bytesT Tryd.prog 58=some 112:=by kernel_rfl
@[simp] theorem agg58:aggT Tryd.prog 58=some true:=by kernel_rfl
@[simp] theorem kind58:kindT Tryd.prog 58=some .struct:=by kernel_rfl
@[simp] theorem field58_0:fieldT Tryd.prog 58 0=some (0,1,9):=by kernel_rfl
@[simp] theorem field58_1:fieldT Tryd.prog 58 1=some (1,1,54):=by kernel_rfl
@[simp] theorem field58_2:fieldT Tryd.prog 58 2=some (2,1,55):=by kernel_rfl
@[simp] theorem field58_3:fieldT Tryd.prog 58 3=some (3,1,56):=by kernel_rfl
@[simp] theorem field58_4:fieldT Tryd.prog 58 4=some (4,1,57):=by kernel_rfl
@[simp] theorem places58:placesT Tryd.prog 58=some [(0,1),(1,1),(2,1),(3,1),(4,1)]:=by kernel_rfl
@[simp] theorem zero58 : zeroT Tryd.prog 58 = some (.agg #[.string "".toByteArray, .slice none 0 0, .slice none 0 0, .slice none 0 0, .slice none 0 0]) := by kernel_rfl
@[simp] theorem size59:sizeT Tryd.prog 59=some 5:=by kernel_rfl
@[simp] theorem bytes59:bytesT Tryd.prog 59=some 112:=by kernel_rfl
@[simp] theorem agg59:aggT Tryd.prog 59=some true:=by kernel_rfl
@[simp] theorem kind59:kindT Tryd.prog 59=some .struct:=by kernel_rfl
@[simp] theorem field59_0:fieldT Tryd.prog 59 0=some (0,1,9):=by kernel_rfl
@[simp] theorem field59_1:fieldT Tryd.prog 59 1=some (1,1,54):=by kernel_rfl
@[simp] theorem field59_2:fieldT Tryd.prog 59 2=some (2,1,55):=by kernel_rfl
@[simp] theorem field59_3:fieldT Tryd.prog 59 3=some (3,1,56):=by kernel_rfl
@[simp] theorem field59_4:fieldT Tryd.prog 59 4=some (4,1,57):=by kernel_rfl
@[simp] theorem places59:placesT Tryd.prog 59=some [(0,1),(1,1),(2,1),(3,1),(4,1)]:=by kernel_rfl
@[simp] theorem zero59 : zeroT Tryd.prog 59 = some (.agg #[.string "".toByteArray, .slice none 0 0, .slice none 0 0, .slice none 0 0, .slice none 0 0]) := by kernel_rfl
@[simp] theorem size60:sizeT Tryd.prog 60=some 1:=by kernel_rfl
@[simp] theorem bytes60:bytesT Tryd.prog 60=some 0:=by kernel_rfl
@[simp] theorem agg60:aggT Tryd.prog 60=some false:=by kernel_rfl
@[simp] theorem kind60:kindT Tryd.prog 60=some .other:=by kernel_rfl
@[simp] theorem size61:sizeT Tryd.prog 61=some 1:=by kernel_rfl
@[simp] theorem bytes61:bytesT Tryd.prog 61=some 8:=by kernel_rfl
@[simp] theorem agg61:aggT Tryd.prog 61=some false:=by kernel_rfl
@[simp] theorem kind61:kindT Tryd.prog 61=some .func:=by kernel_rfl
@[simp] theorem zero61:zeroT Tryd.prog 61=some (.nilFunc):=by kernel_rfl
@[simp] theorem size62:sizeT Tryd.prog 62=some 1:=by kernel_rfl
@[simp] theorem bytes62:bytesT Tryd.prog 62=some 8:=by kernel_rfl
@[simp] theorem agg62:aggT Tryd.prog 62=some false:=by kernel_rfl
@[simp] theorem kind62:kindT Tryd.prog 62=some .ptr:=by kernel_rfl
@[simp] theorem zero62:zeroT Tryd.prog 62=some (.pointer none):=by kernel_rfl
@[simp] theorem size63:sizeT Tryd.prog 63=some 1:=by kernel_rfl
@[simp] theorem bytes63:bytesT Tryd.prog 63=some 0:=by kernel_rfl
@[simp] theorem agg63:aggT Tryd.prog 63=some false:=by kernel_rfl
@[simp] theorem kind63:kindT Tryd.prog 63=some .other:=by kernel_rfl
@[simp] theorem size64:sizeT Tryd.prog 64=some 1:=by kernel_rfl
@[simp] theorem bytes64:bytesT Tryd.prog 64=some 8:=by kernel_rfl
@[simp] theorem agg64:aggT Tryd.prog 64=some false:=by kernel_rfl
@[simp] theorem kind64:kindT Tryd.prog 64=some .func:=by kernel_rfl
@[simp] theorem zero64:zeroT Tryd.prog 64=some (.nilFunc):=by kernel_rfl
@[simp] theorem size65:sizeT Tryd.prog 65=some 3:=by kernel_rfl
@[simp] theorem bytes65:bytesT Tryd.prog 65=some 24:=by kernel_rfl
@[simp] theorem agg65:aggT Tryd.prog 65=some true:=by kernel_rfl
@[simp] theorem kind65:kindT Tryd.prog 65=some .struct:=by kernel_rfl
@[simp] theorem field65_0:fieldT Tryd.prog 65 0=some (0,1,3):=by kernel_rfl
@[simp] theorem field65_1:fieldT Tryd.prog 65 1=some (1,1,3):=by kernel_rfl
@[simp] theorem field65_2:fieldT Tryd.prog 65 2=some (2,1,3):=by kernel_rfl
@[simp] theorem places65:placesT Tryd.prog 65=some [(0,1),(1,1),(2,1)]:=by kernel_rfl
@[simp] theorem zero65:zeroT Tryd.prog 65=some (.agg #[.int .i64 0,.int .i64 0,.int .i64 0]):=by kernel_rfl
@[simp] theorem size66:sizeT Tryd.prog 66=some 3:=by kernel_rfl
@[simp] theorem bytes66:bytesT Tryd.prog 66=some 24:=by kernel_rfl
@[simp] theorem agg66:aggT Tryd.prog 66=some true:=by kernel_rfl
@[simp] theorem kind66:kindT Tryd.prog 66=some .struct:=by kernel_rfl
@[simp] theorem field66_0:fieldT Tryd.prog 66 0=some (0,1,3):=by kernel_rfl
@[simp] theorem field66_1:fieldT Tryd.prog 66 1=some (1,1,3):=by kernel_rfl
@[simp] theorem field66_2:fieldT Tryd.prog 66 2=some (2,1,3):=by kernel_rfl
@[simp] theorem places66:placesT Tryd.prog 66=some [(0,1),(1,1),(2,1)]:=by kernel_rfl
@[simp] theorem zero66:zeroT Tryd.prog 66=some (.agg #[.int .i64 0,.int .i64 0,.int .i64 0]):=by kernel_rfl
@[simp] theorem size67:sizeT Tryd.prog 67=some 1:=by kernel_rfl
@[simp] theorem bytes67:bytesT Tryd.prog 67=some 0:=by kernel_rfl
@[simp] theorem agg67:aggT Tryd.prog 67=some false:=by kernel_rfl
@[simp] theorem kind67:kindT Tryd.prog 67=some .other:=by kernel_rfl
@[simp] theorem size68:sizeT Tryd.prog 68=some 1:=by kernel_rfl
@[simp] theorem bytes68:bytesT Tryd.prog 68=some 8:=by kernel_rfl
@[simp] theorem agg68:aggT Tryd.prog 68=some false:=by kernel_rfl
@[simp] theorem kind68:kindT Tryd.prog 68=some .func:=by kernel_rfl
@[simp] theorem zero68:zeroT Tryd.prog 68=some (.nilFunc):=by kernel_rfl
@[simp] theorem size69:sizeT Tryd.prog 69=some 1:=by kernel_rfl
@[simp] theorem bytes69:bytesT Tryd.prog 69=some 8:=by kernel_rfl
@[simp] theorem agg69:aggT Tryd.prog 69=some false:=by kernel_rfl
@[simp] theorem kind69:kindT Tryd.prog 69=some .func:=by kernel_rfl
@[simp] theorem zero69:zeroT Tryd.prog 69=some (.nilFunc):=by kernel_rfl
@[simp] theorem size70:sizeT Tryd.prog 70=some 1:=by kernel_rfl
@[simp] theorem bytes70:bytesT Tryd.prog 70=some 8:=by kernel_rfl
@[simp] theorem agg70:aggT Tryd.prog 70=some false:=by kernel_rfl
@[simp] theorem kind70:kindT Tryd.prog 70=some .func:=by kernel_rfl
@[simp] theorem zero70:zeroT Tryd.prog 70=some (.nilFunc):=by kernel_rfl
@[simp] theorem size71:sizeT Tryd.prog 71=some 1:=by kernel_rfl
@[simp] theorem bytes71:bytesT Tryd.prog 71=some 24:=by kernel_rfl
@[simp] theorem agg71:aggT Tryd.prog 71=some false:=by kernel_rfl
@[simp] theorem kind71:kindT Tryd.prog 71=some .slice:=by kernel_rfl
@[simp] theorem elem71:elemT Tryd.prog 71=some 74:=by kernel_rfl
@[simp] theorem zero71:zeroT Tryd.prog 71=some (.slice none 0 0):=by kernel_rfl
@[simp] theorem size72:sizeT Tryd.prog 72=some 1:=by kernel_rfl
@[simp] theorem bytes72:bytesT Tryd.prog 72=some 8:=by kernel_rfl
@[simp] theorem agg72:aggT Tryd.prog 72=some false:=by kernel_rfl
@[simp] theorem kind72:kindT Tryd.prog 72=some .func:=by kernel_rfl
@[simp] theorem zero72:zeroT Tryd.prog 72=some (.nilFunc):=by kernel_rfl
@[simp] theorem size73:sizeT Tryd.prog 73=some 2:=by kernel_rfl
@[simp] theorem bytes73:bytesT Tryd.prog 73=some 16:=by kernel_rfl
@[simp] theorem agg73:aggT Tryd.prog 73=some true:=by kernel_rfl
@[simp] theorem kind73:kindT Tryd.prog 73=some .struct:=by kernel_rfl
@[simp] theorem field73_0:fieldT Tryd.prog 73 0=some (0,1,3):=by kernel_rfl
@[simp] theorem field73_1:fieldT Tryd.prog 73 1=some (1,1,3):=by kernel_rfl
@[simp] theorem places73:placesT Tryd.prog 73=some [(0,1),(1,1)]:=by kernel_rfl
@[simp] theorem zero73:zeroT Tryd.prog 73=some (.agg #[.int .i64 0,.int .i64 0]):=by kernel_rfl
@[simp] theorem size74:sizeT Tryd.prog 74=some 2:=by kernel_rfl
@[simp] theorem bytes74:bytesT Tryd.prog 74=some 16:=by kernel_rfl
@[simp] theorem agg74:aggT Tryd.prog 74=some true:=by kernel_rfl
@[simp] theorem kind74:kindT Tryd.prog 74=some .struct:=by kernel_rfl
@[simp] theorem field74_0:fieldT Tryd.prog 74 0=some (0,1,3):=by kernel_rfl
@[simp] theorem field74_1:fieldT Tryd.prog 74 1=some (1,1,3):=by kernel_rfl
@[simp] theorem places74:placesT Tryd.prog 74=some [(0,1),(1,1)]:=by kernel_rfl
@[simp] theorem zero74:zeroT Tryd.prog 74=some (.agg #[.int .i64 0,.int .i64 0]):=by kernel_rfl
@[simp] theorem size75:sizeT Tryd.prog 75=some 1:=by kernel_rfl
@[simp] theorem bytes75:bytesT Tryd.prog 75=some 8:=by kernel_rfl
@[simp] theorem agg75:aggT Tryd.prog 75=some false:=by kernel_rfl
@[simp] theorem kind75:kindT Tryd.prog 75=some .func:=by kernel_rfl
@[simp] theorem zero75:zeroT Tryd.prog 75=some (.nilFunc):=by kernel_rfl
@[simp] theorem size76:sizeT Tryd.prog 76=some 1:=by kernel_rfl
@[simp] theorem bytes76:bytesT Tryd.prog 76=some 8:=by kernel_rfl
@[simp] theorem agg76:aggT Tryd.prog 76=some false:=by kernel_rfl
@[simp] theorem kind76:kindT Tryd.prog 76=some .func:=by kernel_rfl
@[simp] theorem zero76:zeroT Tryd.prog 76=some (.nilFunc):=by kernel_rfl
@[simp] theorem size77:sizeT Tryd.prog 77=some 1:=by kernel_rfl
@[simp] theorem bytes77:bytesT Tryd.prog 77=some 8:=by kernel_rfl
@[simp] theorem agg77:aggT Tryd.prog 77=some false:=by kernel_rfl
@[simp] theorem kind77:kindT Tryd.prog 77=some .func:=by kernel_rfl
@[simp] theorem zero77:zeroT Tryd.prog 77=some (.nilFunc):=by kernel_rfl
@[simp] theorem size78:sizeT Tryd.prog 78=some 1:=by kernel_rfl
@[simp] theorem bytes78:bytesT Tryd.prog 78=some 8:=by kernel_rfl
@[simp] theorem agg78:aggT Tryd.prog 78=some false:=by kernel_rfl
@[simp] theorem kind78:kindT Tryd.prog 78=some .ptr:=by kernel_rfl
@[simp] theorem zero78:zeroT Tryd.prog 78=some (.pointer none):=by kernel_rfl
@[simp] theorem size79:sizeT Tryd.prog 79=some 1:=by kernel_rfl
@[simp] theorem bytes79:bytesT Tryd.prog 79=some 0:=by kernel_rfl
@[simp] theorem agg79:aggT Tryd.prog 79=some false:=by kernel_rfl
@[simp] theorem kind79:kindT Tryd.prog 79=some .other:=by kernel_rfl
@[simp] theorem size80:sizeT Tryd.prog 80=some 1:=by kernel_rfl
@[simp] theorem bytes80:bytesT Tryd.prog 80=some 8:=by kernel_rfl
@[simp] theorem agg80:aggT Tryd.prog 80=some false:=by kernel_rfl
@[simp] theorem kind80:kindT Tryd.prog 80=some .func:=by kernel_rfl
@[simp] theorem zero80:zeroT Tryd.prog 80=some (.nilFunc):=by kernel_rfl
@[simp] theorem size81:sizeT Tryd.prog 81=some 1:=by kernel_rfl
@[simp] theorem bytes81:bytesT Tryd.prog 81=some 8:=by kernel_rfl
@[simp] theorem agg81:aggT Tryd.prog 81=some false:=by kernel_rfl
@[simp] theorem kind81:kindT Tryd.prog 81=some .func:=by kernel_rfl
@[simp] theorem zero81:zeroT Tryd.prog 81=some (.nilFunc):=by kernel_rfl
@[simp] theorem size82:sizeT Tryd.prog 82=some 4:=by kernel_rfl
@[simp] theorem bytes82:bytesT Tryd.prog 82=some 40:=by kernel_rfl
@[simp] theorem agg82:aggT Tryd.prog 82=some true:=by kernel_rfl
@[simp] theorem kind82:kindT Tryd.prog 82=some .struct:=by kernel_rfl
@[simp] theorem field82_0:fieldT Tryd.prog 82 0=some (0,1,3):=by kernel_rfl
@[simp] theorem field82_1:fieldT Tryd.prog 82 1=some (1,1,3):=by kernel_rfl
@[simp] theorem field82_2:fieldT Tryd.prog 82 2=some (2,1,9):=by kernel_rfl
@[simp] theorem field82_3:fieldT Tryd.prog 82 3=some (3,1,3):=by kernel_rfl
@[simp] theorem places82:placesT Tryd.prog 82=some [(0,1),(1,1),(2,1),(3,1)]:=by kernel_rfl
@[simp] theorem zero82 : zeroT Tryd.prog 82 = some (.agg #[.int .i64 0, .int .i64 0, .string "".toByteArray, .int .i64 0]) := by kernel_rfl
@[simp] theorem size83:sizeT Tryd.prog 83=some 4:=by kernel_rfl
@[simp] theorem bytes83:bytesT Tryd.prog 83=some 40:=by kernel_rfl
@[simp] theorem agg83:aggT Tryd.prog 83=some true:=by kernel_rfl
@[simp] theorem kind83:kindT Tryd.prog 83=some .struct:=by kernel_rfl
@[simp] theorem field83_0:fieldT Tryd.prog 83 0=some (0,1,3):=by kernel_rfl
@[simp] theorem field83_1:fieldT Tryd.prog 83 1=some (1,1,3):=by kernel_rfl
@[simp] theorem field83_2:fieldT Tryd.prog 83 2=some (2,1,9):=by kernel_rfl
@[simp] theorem field83_3:fieldT Tryd.prog 83 3=some (3,1,3):=by kernel_rfl
@[simp] theorem places83:placesT Tryd.prog 83=some [(0,1),(1,1),(2,1),(3,1)]:=by kernel_rfl
@[simp] theorem zero83 : zeroT Tryd.prog 83 = some (.agg #[.int .i64 0, .int .i64 0, .string "".toByteArray, .int .i64 0]) := by kernel_rfl
@[simp] theorem size84:sizeT Tryd.prog 84=some 1:=by kernel_rfl
@[simp] theorem bytes84:bytesT Tryd.prog 84=some 24:=by kernel_rfl
@[simp] theorem agg84:aggT Tryd.prog 84=some false:=by kernel_rfl
@[simp] theorem kind84:kindT Tryd.prog 84=some .slice:=by kernel_rfl
@[simp] theorem elem84:elemT Tryd.prog 84=some 88:=by kernel_rfl
@[simp] theorem zero84:zeroT Tryd.prog 84=some (.slice none 0 0):=by kernel_rfl
@[simp] theorem size85:sizeT Tryd.prog 85=some 5:=by kernel_rfl
@[simp] theorem bytes85:bytesT Tryd.prog 85=some 96:=by kernel_rfl
@[simp] theorem agg85:aggT Tryd.prog 85=some true:=by kernel_rfl
@[simp] theorem kind85:kindT Tryd.prog 85=some .struct:=by kernel_rfl
@[simp] theorem field85_0:fieldT Tryd.prog 85 0=some (0,1,3):=by kernel_rfl
@[simp] theorem field85_1:fieldT Tryd.prog 85 1=some (1,1,9):=by kernel_rfl
@[simp] theorem field85_2:fieldT Tryd.prog 85 2=some (2,1,84):=by kernel_rfl
@[simp] theorem field85_3:fieldT Tryd.prog 85 3=some (3,1,84):=by kernel_rfl
@[simp] theorem field85_4:fieldT Tryd.prog 85 4=some (4,1,57):=by kernel_rfl
@[simp] theorem places85:placesT Tryd.prog 85=some [(0,1),(1,1),(2,1),(3,1),(4,1)]:=by kernel_rfl
@[simp] theorem zero85 : zeroT Tryd.prog 85 = some (.agg #[.int .i64 0, .string "".toByteArray, .slice none 0 0, .slice none 0 0, .slice none 0 0]) := by kernel_rfl
@[simp] theorem size86:sizeT Tryd.prog 86=some 5:=by kernel_rfl
@[simp] theorem bytes86:bytesT Tryd.prog 86=some 96:=by kernel_rfl
@[simp] theorem agg86:aggT Tryd.prog 86=some true:=by kernel_rfl
@[simp] theorem kind86:kindT Tryd.prog 86=some .struct:=by kernel_rfl
@[simp] theorem field86_0:fieldT Tryd.prog 86 0=some (0,1,3):=by kernel_rfl
@[simp] theorem field86_1:fieldT Tryd.prog 86 1=some (1,1,9):=by kernel_rfl
@[simp] theorem field86_2:fieldT Tryd.prog 86 2=some (2,1,84):=by kernel_rfl
@[simp] theorem field86_3:fieldT Tryd.prog 86 3=some (3,1,84):=by kernel_rfl
@[simp] theorem field86_4:fieldT Tryd.prog 86 4=some (4,1,57):=by kernel_rfl
@[simp] theorem places86:placesT Tryd.prog 86=some [(0,1),(1,1),(2,1),(3,1),(4,1)]:=by kernel_rfl
@[simp] theorem zero86 : zeroT Tryd.prog 86 = some (.agg #[.int .i64 0, .string "".toByteArray, .slice none 0 0, .slice none 0 0, .slice none 0 0]) := by kernel_rfl
@[simp] theorem size87:sizeT Tryd.prog 87=some 2:=by kernel_rfl
@[simp] theorem bytes87:bytesT Tryd.prog 87=some 24:=by kernel_rfl
@[simp] theorem agg87:aggT Tryd.prog 87=some true:=by kernel_rfl
@[simp] theorem kind87:kindT Tryd.prog 87=some .struct:=by kernel_rfl
@[simp] theorem field87_0:fieldT Tryd.prog 87 0=some (0,1,3):=by kernel_rfl
@[simp] theorem field87_1:fieldT Tryd.prog 87 1=some (1,1,9):=by kernel_rfl
@[simp] theorem places87:placesT Tryd.prog 87=some [(0,1),(1,1)]:=by kernel_rfl
@[simp] theorem zero87 : zeroT Tryd.prog 87 = some (.agg #[.int .i64 0, .string "".toByteArray]) := by kernel_rfl
@[simp] theorem size88:sizeT Tryd.prog 88=some 2:=by kernel_rfl
@[simp] theorem bytes88:bytesT Tryd.prog 88=some 24:=by kernel_rfl
@[simp] theorem agg88:aggT Tryd.prog 88=some true:=by kernel_rfl
@[simp] theorem kind88:kindT Tryd.prog 88=some .struct:=by kernel_rfl
@[simp] theorem field88_0:fieldT Tryd.prog 88 0=some (0,1,3):=by kernel_rfl
@[simp] theorem field88_1:fieldT Tryd.prog 88 1=some (1,1,9):=by kernel_rfl
@[simp] theorem places88:placesT Tryd.prog 88=some [(0,1),(1,1)]:=by kernel_rfl
@[simp] theorem zero88 : zeroT Tryd.prog 88 = some (.agg #[.int .i64 0, .string "".toByteArray]) := by kernel_rfl
@[simp] theorem size89:sizeT Tryd.prog 89=some 1:=by kernel_rfl
@[simp] theorem bytes89:bytesT Tryd.prog 89=some 8:=by kernel_rfl
@[simp] theorem agg89:aggT Tryd.prog 89=some false:=by kernel_rfl
@[simp] theorem kind89:kindT Tryd.prog 89=some .func:=by kernel_rfl
@[simp] theorem zero89:zeroT Tryd.prog 89=some (.nilFunc):=by kernel_rfl
@[simp] theorem size90:sizeT Tryd.prog 90=some 1:=by kernel_rfl
@[simp] theorem bytes90:bytesT Tryd.prog 90=some 8:=by kernel_rfl
@[simp] theorem agg90:aggT Tryd.prog 90=some false:=by kernel_rfl
@[simp] theorem kind90:kindT Tryd.prog 90=some .func:=by kernel_rfl
@[simp] theorem zero90:zeroT Tryd.prog 90=some (.nilFunc):=by kernel_rfl
@[simp] theorem size91:sizeT Tryd.prog 91=some 1:=by kernel_rfl
@[simp] theorem bytes91:bytesT Tryd.prog 91=some 8:=by kernel_rfl
@[simp] theorem agg91:aggT Tryd.prog 91=some false:=by kernel_rfl
@[simp] theorem kind91:kindT Tryd.prog 91=some .func:=by kernel_rfl
@[simp] theorem zero91:zeroT Tryd.prog 91=some (.nilFunc):=by kernel_rfl
@[simp] theorem size92:sizeT Tryd.prog 92=some 1:=by kernel_rfl
@[simp] theorem bytes92:bytesT Tryd.prog 92=some 8:=by kernel_rfl
@[simp] theorem agg92:aggT Tryd.prog 92=some false:=by kernel_rfl
@[simp] theorem kind92:kindT Tryd.prog 92=some .ptr:=by kernel_rfl
@[simp] theorem zero92:zeroT Tryd.prog 92=some (.pointer none):=by kernel_rfl
@[simp] theorem size93:sizeT Tryd.prog 93=some 5:=by kernel_rfl
@[simp] theorem bytes93:bytesT Tryd.prog 93=some 56:=by kernel_rfl
@[simp] theorem agg93:aggT Tryd.prog 93=some true:=by kernel_rfl
@[simp] theorem kind93:kindT Tryd.prog 93=some .struct:=by kernel_rfl
@[simp] theorem field93_0:fieldT Tryd.prog 93 0=some (0,1,25):=by kernel_rfl
@[simp] theorem field93_1:fieldT Tryd.prog 93 1=some (1,1,3):=by kernel_rfl
@[simp] theorem field93_2:fieldT Tryd.prog 93 2=some (2,1,3):=by kernel_rfl
@[simp] theorem field93_3:fieldT Tryd.prog 93 3=some (3,2,28):=by kernel_rfl
@[simp] theorem places93:placesT Tryd.prog 93=some [(0,1),(1,1),(2,1),(3,2)]:=by kernel_rfl
@[simp] theorem zero93:zeroT Tryd.prog 93=some (.agg #[.slice none 0 0,.int .i64 0,.int .i64 0,.int .i64 0,.int .i64 0]):=by kernel_rfl
@[simp] theorem size94:sizeT Tryd.prog 94=some 5:=by kernel_rfl
@[simp] theorem bytes94:bytesT Tryd.prog 94=some 56:=by kernel_rfl
@[simp] theorem agg94:aggT Tryd.prog 94=some true:=by kernel_rfl
@[simp] theorem kind94:kindT Tryd.prog 94=some .struct:=by kernel_rfl
@[simp] theorem field94_0:fieldT Tryd.prog 94 0=some (0,1,25):=by kernel_rfl
@[simp] theorem field94_1:fieldT Tryd.prog 94 1=some (1,1,3):=by kernel_rfl
@[simp] theorem field94_2:fieldT Tryd.prog 94 2=some (2,1,3):=by kernel_rfl
@[simp] theorem field94_3:fieldT Tryd.prog 94 3=some (3,2,28):=by kernel_rfl
@[simp] theorem places94:placesT Tryd.prog 94=some [(0,1),(1,1),(2,1),(3,2)]:=by kernel_rfl
@[simp] theorem zero94:zeroT Tryd.prog 94=some (.agg #[.slice none 0 0,.int .i64 0,.int .i64 0,.int .i64 0,.int .i64 0]):=by kernel_rfl
@[simp] theorem size95:sizeT Tryd.prog 95=some 1:=by kernel_rfl
@[simp] theorem bytes95:bytesT Tryd.prog 95=some 8:=by kernel_rfl
@[simp] theorem agg95:aggT Tryd.prog 95=some false:=by kernel_rfl
@[simp] theorem kind95:kindT Tryd.prog 95=some .func:=by kernel_rfl
@[simp] theorem zero95:zeroT Tryd.prog 95=some (.nilFunc):=by kernel_rfl
@[simp] theorem size96:sizeT Tryd.prog 96=some 32:=by kernel_rfl
@[simp] theorem bytes96:bytesT Tryd.prog 96=some 512:=by kernel_rfl
@[simp] theorem agg96:aggT Tryd.prog 96=some true:=by kernel_rfl
@[simp] theorem kind96:kindT Tryd.prog 96=some .array:=by kernel_rfl
@[simp] theorem placesN96:placesT Tryd.prog 96=none:=by kernel_rfl
@[simp] theorem arr96:arrT Tryd.prog 96=some (32,9):=by kernel_rfl
@[simp] theorem zero96 : zeroT Tryd.prog 96 = some (.agg #[.string "".toByteArray, .string "".toByteArray, .string "".toByteArray, .string "".toByteArray, .string "".toByteArray, .string "".toByteArray, .string "".toByteArray, .string "".toByteArray, .string "".toByteArray, .string "".toByteArray, .string "".toByteArray, .string "".toByteArray, .string "".toByteArray, .string "".toByteArray, .string "".toByteArray, .string "".toByteArray, .string "".toByteArray, .string "".toByteArray, .string "".toByteArray, .string "".toByteArray, .string "".toByteArray, .string "".toByteArray, .string "".toByteArray, .string "".toByteArray, .string "".toByteArray, .string "".toByteArray, .string "".toByteArray, .string "".toByteArray, .string "".toByteArray, .string "".toByteArray, .string "".toByteArray, .string "".toByteArray]) := by kernel_rfl
@[simp] theorem size97:sizeT Tryd.prog 97=some 1:=by kernel_rfl
@[simp] theorem bytes97:bytesT Tryd.prog 97=some 8:=by kernel_rfl
@[simp] theorem agg97:aggT Tryd.prog 97=some false:=by kernel_rfl
@[simp] theorem kind97:kindT Tryd.prog 97=some .ptr:=by kernel_rfl
@[simp] theorem zero97:zeroT Tryd.prog 97=some (.pointer none):=by kernel_rfl
@[simp] theorem size98:sizeT Tryd.prog 98=some 6:=by kernel_rfl
@[simp] theorem bytes98:bytesT Tryd.prog 98=some 88:=by kernel_rfl
@[simp] theorem agg98:aggT Tryd.prog 98=some true:=by kernel_rfl
@[simp] theorem kind98:kindT Tryd.prog 98=some .struct:=by kernel_rfl
@[simp] theorem field98_0:fieldT Tryd.prog 98 0=some (0,1,22):=by kernel_rfl
@[simp] theorem field98_1:fieldT Tryd.prog 98 1=some (1,1,3):=by kernel_rfl
@[simp] theorem field98_2:fieldT Tryd.prog 98 2=some (2,1,23):=by kernel_rfl
@[simp] theorem field98_3:fieldT Tryd.prog 98 3=some (3,1,3):=by kernel_rfl
@[simp] theorem field98_4:fieldT Tryd.prog 98 4=some (4,1,9):=by kernel_rfl
@[simp] theorem field98_5:fieldT Tryd.prog 98 5=some (5,1,3):=by kernel_rfl
@[simp] theorem places98:placesT Tryd.prog 98=some [(0,1),(1,1),(2,1),(3,1),(4,1),(5,1)]:=by kernel_rfl
@[simp] theorem zero98 : zeroT Tryd.prog 98 = some (.agg #[.slice none 0 0, .int .i64 0, .slice none 0 0, .int .i64 0, .string "".toByteArray, .int .i64 0]) := by kernel_rfl
@[simp] theorem size99:sizeT Tryd.prog 99=some 6:=by kernel_rfl
@[simp] theorem bytes99:bytesT Tryd.prog 99=some 88:=by kernel_rfl
@[simp] theorem agg99:aggT Tryd.prog 99=some true:=by kernel_rfl
@[simp] theorem kind99:kindT Tryd.prog 99=some .struct:=by kernel_rfl
@[simp] theorem field99_0:fieldT Tryd.prog 99 0=some (0,1,22):=by kernel_rfl
@[simp] theorem field99_1:fieldT Tryd.prog 99 1=some (1,1,3):=by kernel_rfl
@[simp] theorem field99_2:fieldT Tryd.prog 99 2=some (2,1,23):=by kernel_rfl
@[simp] theorem field99_3:fieldT Tryd.prog 99 3=some (3,1,3):=by kernel_rfl
@[simp] theorem field99_4:fieldT Tryd.prog 99 4=some (4,1,9):=by kernel_rfl
@[simp] theorem field99_5:fieldT Tryd.prog 99 5=some (5,1,3):=by kernel_rfl
@[simp] theorem places99:placesT Tryd.prog 99=some [(0,1),(1,1),(2,1),(3,1),(4,1),(5,1)]:=by kernel_rfl
@[simp] theorem zero99 : zeroT Tryd.prog 99 = some (.agg #[.slice none 0 0, .int .i64 0, .slice none 0 0, .int .i64 0, .string "".toByteArray, .int .i64 0]) := by kernel_rfl
@[simp] theorem size100:sizeT Tryd.prog 100=some 1:=by kernel_rfl
@[simp] theorem bytes100:bytesT Tryd.prog 100=some 8:=by kernel_rfl
@[simp] theorem agg100:aggT Tryd.prog 100=some false:=by kernel_rfl
@[simp] theorem kind100:kindT Tryd.prog 100=some .func:=by kernel_rfl
@[simp] theorem zero100:zeroT Tryd.prog 100=some (.nilFunc):=by kernel_rfl
@[simp] theorem size101:sizeT Tryd.prog 101=some 1:=by kernel_rfl
@[simp] theorem bytes101:bytesT Tryd.prog 101=some 8:=by kernel_rfl
@[simp] theorem agg101:aggT Tryd.prog 101=some false:=by kernel_rfl
@[simp] theorem kind101:kindT Tryd.prog 101=some .func:=by kernel_rfl
@[simp] theorem zero101:zeroT Tryd.prog 101=some (.nilFunc):=by kernel_rfl
@[simp] theorem size102:sizeT Tryd.prog 102=some 1:=by kernel_rfl
@[simp] theorem bytes102:bytesT Tryd.prog 102=some 8:=by kernel_rfl
@[simp] theorem agg102:aggT Tryd.prog 102=some false:=by kernel_rfl
@[simp] theorem kind102:kindT Tryd.prog 102=some .ptr:=by kernel_rfl
@[simp] theorem zero102:zeroT Tryd.prog 102=some (.pointer none):=by kernel_rfl
@[simp] theorem size103:sizeT Tryd.prog 103=some 4:=by kernel_rfl
@[simp] theorem bytes103:bytesT Tryd.prog 103=some 48:=by kernel_rfl
@[simp] theorem agg103:aggT Tryd.prog 103=some true:=by kernel_rfl
@[simp] theorem kind103:kindT Tryd.prog 103=some .struct:=by kernel_rfl
@[simp] theorem field103_0:fieldT Tryd.prog 103 0=some (0,1,25):=by kernel_rfl
@[simp] theorem field103_1:fieldT Tryd.prog 103 1=some (1,1,3):=by kernel_rfl
@[simp] theorem field103_2:fieldT Tryd.prog 103 2=some (2,2,28):=by kernel_rfl
@[simp] theorem places103:placesT Tryd.prog 103=some [(0,1),(1,1),(2,2)]:=by kernel_rfl
@[simp] theorem zero103:zeroT Tryd.prog 103=some (.agg #[.slice none 0 0,.int .i64 0,.int .i64 0,.int .i64 0]):=by kernel_rfl
@[simp] theorem size104:sizeT Tryd.prog 104=some 4:=by kernel_rfl
@[simp] theorem bytes104:bytesT Tryd.prog 104=some 48:=by kernel_rfl
@[simp] theorem agg104:aggT Tryd.prog 104=some true:=by kernel_rfl
@[simp] theorem kind104:kindT Tryd.prog 104=some .struct:=by kernel_rfl
@[simp] theorem field104_0:fieldT Tryd.prog 104 0=some (0,1,25):=by kernel_rfl
@[simp] theorem field104_1:fieldT Tryd.prog 104 1=some (1,1,3):=by kernel_rfl
@[simp] theorem field104_2:fieldT Tryd.prog 104 2=some (2,2,28):=by kernel_rfl
@[simp] theorem places104:placesT Tryd.prog 104=some [(0,1),(1,1),(2,2)]:=by kernel_rfl
@[simp] theorem zero104:zeroT Tryd.prog 104=some (.agg #[.slice none 0 0,.int .i64 0,.int .i64 0,.int .i64 0]):=by kernel_rfl
@[simp] theorem size105:sizeT Tryd.prog 105=some 1:=by kernel_rfl
@[simp] theorem bytes105:bytesT Tryd.prog 105=some 8:=by kernel_rfl
@[simp] theorem agg105:aggT Tryd.prog 105=some false:=by kernel_rfl
@[simp] theorem kind105:kindT Tryd.prog 105=some .func:=by kernel_rfl
@[simp] theorem zero105:zeroT Tryd.prog 105=some (.nilFunc):=by kernel_rfl
@[simp] theorem size106:sizeT Tryd.prog 106=some 1:=by kernel_rfl
@[simp] theorem bytes106:bytesT Tryd.prog 106=some 8:=by kernel_rfl
@[simp] theorem agg106:aggT Tryd.prog 106=some false:=by kernel_rfl
@[simp] theorem kind106:kindT Tryd.prog 106=some .func:=by kernel_rfl
@[simp] theorem zero106:zeroT Tryd.prog 106=some (.nilFunc):=by kernel_rfl
@[simp] theorem size107:sizeT Tryd.prog 107=some 1:=by kernel_rfl
@[simp] theorem bytes107:bytesT Tryd.prog 107=some 8:=by kernel_rfl
@[simp] theorem agg107:aggT Tryd.prog 107=some false:=by kernel_rfl
@[simp] theorem kind107:kindT Tryd.prog 107=some .func:=by kernel_rfl
@[simp] theorem zero107:zeroT Tryd.prog 107=some (.nilFunc):=by kernel_rfl
@[simp] theorem size108:sizeT Tryd.prog 108=some 1:=by kernel_rfl
@[simp] theorem bytes108:bytesT Tryd.prog 108=some 8:=by kernel_rfl
@[simp] theorem agg108:aggT Tryd.prog 108=some false:=by kernel_rfl
@[simp] theorem kind108:kindT Tryd.prog 108=some .func:=by kernel_rfl
@[simp] theorem zero108:zeroT Tryd.prog 108=some (.nilFunc):=by kernel_rfl
@[simp] theorem size109:sizeT Tryd.prog 109=some 1:=by kernel_rfl
@[simp] theorem bytes109:bytesT Tryd.prog 109=some 8:=by kernel_rfl
@[simp] theorem agg109:aggT Tryd.prog 109=some false:=by kernel_rfl
@[simp] theorem kind109:kindT Tryd.prog 109=some .func:=by kernel_rfl
@[simp] theorem zero109:zeroT Tryd.prog 109=some (.nilFunc):=by kernel_rfl
@[simp] theorem size110:sizeT Tryd.prog 110=some 1:=by kernel_rfl
@[simp] theorem bytes110:bytesT Tryd.prog 110=some 8:=by kernel_rfl
@[simp] theorem agg110:aggT Tryd.prog 110=some false:=by kernel_rfl
@[simp] theorem kind110:kindT Tryd.prog 110=some .func:=by kernel_rfl
@[simp] theorem zero110:zeroT Tryd.prog 110=some (.nilFunc):=by kernel_rfl
@[simp] theorem size111:sizeT Tryd.prog 111=some 1:=by kernel_rfl
@[simp] theorem bytes111:bytesT Tryd.prog 111=some 8:=by kernel_rfl
@[simp] theorem agg111:aggT Tryd.prog 111=some false:=by kernel_rfl
@[simp] theorem kind111:kindT Tryd.prog 111=some .func:=by kernel_rfl
@[simp] theorem zero111:zeroT Tryd.prog 111=some (.nilFunc):=by kernel_rfl
@[simp] theorem size112:sizeT Tryd.prog 112=some 1:=by kernel_rfl
@[simp] theorem bytes112:bytesT Tryd.prog 112=some 8:=by kernel_rfl
@[simp] theorem agg112:aggT Tryd.prog 112=some false:=by kernel_rfl
@[simp] theorem kind112:kindT Tryd.prog 112=some .func:=by kernel_rfl
@[simp] theorem zero112:zeroT Tryd.prog 112=some (.nilFunc):=by kernel_rfl
@[simp] theorem size113:sizeT Tryd.prog 113=some 1:=by kernel_rfl
@[simp] theorem bytes113:bytesT Tryd.prog 113=some 8:=by kernel_rfl
@[simp] theorem agg113:aggT Tryd.prog 113=some false:=by kernel_rfl
@[simp] theorem kind113:kindT Tryd.prog 113=some .func:=by kernel_rfl
@[simp] theorem zero113:zeroT Tryd.prog 113=some (.nilFunc):=by kernel_rfl
@[simp] theorem size114:sizeT Tryd.prog 114=some 1:=by kernel_rfl
@[simp] theorem bytes114:bytesT Tryd.prog 114=some 8:=by kernel_rfl
@[simp] theorem agg114:aggT Tryd.prog 114=some false:=by kernel_rfl
@[simp] theorem kind114:kindT Tryd.prog 114=some .func:=by kernel_rfl
@[simp] theorem zero114:zeroT Tryd.prog 114=some (.nilFunc):=by kernel_rfl
@[simp] theorem size115:sizeT Tryd.prog 115=some 1:=by kernel_rfl
@[simp] theorem bytes115:bytesT Tryd.prog 115=some 8:=by kernel_rfl
@[simp] theorem agg115:aggT Tryd.prog 115=some false:=by kernel_rfl
@[simp] theorem kind115:kindT Tryd.prog 115=some .map:=by kernel_rfl
@[simp] theorem zero115:zeroT Tryd.prog 115=some (.map none):=by kernel_rfl
@[simp] theorem size116:sizeT Tryd.prog 116=some 1:=by kernel_rfl
@[simp] theorem bytes116:bytesT Tryd.prog 116=some 8:=by kernel_rfl
@[simp] theorem agg116:aggT Tryd.prog 116=some false:=by kernel_rfl
@[simp] theorem kind116:kindT Tryd.prog 116=some .map:=by kernel_rfl
@[simp] theorem zero116:zeroT Tryd.prog 116=some (.map none):=by kernel_rfl
@[simp] theorem size117:sizeT Tryd.prog 117=some 1:=by kernel_rfl
@[simp] theorem bytes117:bytesT Tryd.prog 117=some 24:=by kernel_rfl
@[simp] theorem agg117:aggT Tryd.prog 117=some false:=by kernel_rfl
@[simp] theorem kind117:kindT Tryd.prog 117=some .slice:=by kernel_rfl
@[simp] theorem elem117:elemT Tryd.prog 117=some 116:=by kernel_rfl
@[simp] theorem zero117:zeroT Tryd.prog 117=some (.slice none 0 0):=by kernel_rfl
@[simp] theorem size118:sizeT Tryd.prog 118=some 9:=by kernel_rfl
@[simp] theorem bytes118:bytesT Tryd.prog 118=some 152:=by kernel_rfl
@[simp] theorem agg118:aggT Tryd.prog 118=some true:=by kernel_rfl
@[simp] theorem kind118:kindT Tryd.prog 118=some .struct:=by kernel_rfl
@[simp] theorem field118_0:fieldT Tryd.prog 118 0=some (0,1,115):=by kernel_rfl
@[simp] theorem field118_1:fieldT Tryd.prog 118 1=some (1,1,116):=by kernel_rfl
@[simp] theorem field118_2:fieldT Tryd.prog 118 2=some (2,1,117):=by kernel_rfl
@[simp] theorem field118_3:fieldT Tryd.prog 118 3=some (3,1,22):=by kernel_rfl
@[simp] theorem field118_4:fieldT Tryd.prog 118 4=some (4,1,71):=by kernel_rfl
@[simp] theorem field118_5:fieldT Tryd.prog 118 5=some (5,1,22):=by kernel_rfl
@[simp] theorem field118_6:fieldT Tryd.prog 118 6=some (6,1,22):=by kernel_rfl
@[simp] theorem field118_7:fieldT Tryd.prog 118 7=some (7,1,116):=by kernel_rfl
@[simp] theorem field118_8:fieldT Tryd.prog 118 8=some (8,1,3):=by kernel_rfl
@[simp] theorem places118:placesT Tryd.prog 118=some [(0,1),(1,1),(2,1),(3,1),(4,1),(5,1),(6,1),(7,1),(8,1)]:=by kernel_rfl
@[simp] theorem zero118:zeroT Tryd.prog 118=some (.agg #[.map none,.map none,.slice none 0 0,.slice none 0 0,.slice none 0 0,.slice none 0 0,.slice none 0 0,.map none,.int .i64 0]):=by kernel_rfl
@[simp] theorem size119:sizeT Tryd.prog 119=some 9:=by kernel_rfl
@[simp] theorem bytes119:bytesT Tryd.prog 119=some 152:=by kernel_rfl
@[simp] theorem agg119:aggT Tryd.prog 119=some true:=by kernel_rfl
@[simp] theorem kind119:kindT Tryd.prog 119=some .struct:=by kernel_rfl
@[simp] theorem field119_0:fieldT Tryd.prog 119 0=some (0,1,115):=by kernel_rfl
@[simp] theorem field119_1:fieldT Tryd.prog 119 1=some (1,1,116):=by kernel_rfl
@[simp] theorem field119_2:fieldT Tryd.prog 119 2=some (2,1,117):=by kernel_rfl
@[simp] theorem field119_3:fieldT Tryd.prog 119 3=some (3,1,22):=by kernel_rfl
@[simp] theorem field119_4:fieldT Tryd.prog 119 4=some (4,1,71):=by kernel_rfl
@[simp] theorem field119_5:fieldT Tryd.prog 119 5=some (5,1,22):=by kernel_rfl
@[simp] theorem field119_6:fieldT Tryd.prog 119 6=some (6,1,22):=by kernel_rfl
@[simp] theorem field119_7:fieldT Tryd.prog 119 7=some (7,1,116):=by kernel_rfl
@[simp] theorem field119_8:fieldT Tryd.prog 119 8=some (8,1,3):=by kernel_rfl
@[simp] theorem places119:placesT Tryd.prog 119=some [(0,1),(1,1),(2,1),(3,1),(4,1),(5,1),(6,1),(7,1),(8,1)]:=by kernel_rfl
@[simp] theorem zero119:zeroT Tryd.prog 119=some (.agg #[.map none,.map none,.slice none 0 0,.slice none 0 0,.slice none 0 0,.slice none 0 0,.slice none 0 0,.map none,.int .i64 0]):=by kernel_rfl
@[simp] theorem size120:sizeT Tryd.prog 120=some 1:=by kernel_rfl
@[simp] theorem bytes120:bytesT Tryd.prog 120=some 16:=by kernel_rfl
@[simp] theorem agg120:aggT Tryd.prog 120=some false:=by kernel_rfl
@[simp] theorem kind120:kindT Tryd.prog 120=some .iface:=by kernel_rfl
@[simp] theorem zero120:zeroT Tryd.prog 120=some (.nilIface):=by kernel_rfl
@[simp] theorem size121:sizeT Tryd.prog 121=some 1:=by kernel_rfl
@[simp] theorem bytes121:bytesT Tryd.prog 121=some 16:=by kernel_rfl
@[simp] theorem agg121:aggT Tryd.prog 121=some false:=by kernel_rfl
@[simp] theorem kind121:kindT Tryd.prog 121=some .iface:=by kernel_rfl
@[simp] theorem zero121:zeroT Tryd.prog 121=some (.nilIface):=by kernel_rfl
@[simp] theorem size122:sizeT Tryd.prog 122=some 1:=by kernel_rfl
@[simp] theorem bytes122:bytesT Tryd.prog 122=some 8:=by kernel_rfl
@[simp] theorem agg122:aggT Tryd.prog 122=some false:=by kernel_rfl
@[simp] theorem kind122:kindT Tryd.prog 122=some .func:=by kernel_rfl
@[simp] theorem zero122:zeroT Tryd.prog 122=some (.nilFunc):=by kernel_rfl
@[simp] theorem size123:sizeT Tryd.prog 123=some 1:=by kernel_rfl
@[simp] theorem bytes123:bytesT Tryd.prog 123=some 8:=by kernel_rfl
@[simp] theorem agg123:aggT Tryd.prog 123=some false:=by kernel_rfl
@[simp] theorem kind123:kindT Tryd.prog 123=some .func:=by kernel_rfl
@[simp] theorem zero123:zeroT Tryd.prog 123=some (.nilFunc):=by kernel_rfl
@[simp] theorem size124:sizeT Tryd.prog 124=some 1:=by kernel_rfl
@[simp] theorem bytes124:bytesT Tryd.prog 124=some 8:=by kernel_rfl
@[simp] theorem agg124:aggT Tryd.prog 124=some false:=by kernel_rfl
@[simp] theorem kind124:kindT Tryd.prog 124=some .func:=by kernel_rfl
@[simp] theorem zero124:zeroT Tryd.prog 124=some (.nilFunc):=by kernel_rfl
@[simp] theorem size125:sizeT Tryd.prog 125=some 1:=by kernel_rfl
@[simp] theorem bytes125:bytesT Tryd.prog 125=some 8:=by kernel_rfl
@[simp] theorem agg125:aggT Tryd.prog 125=some false:=by kernel_rfl
@[simp] theorem kind125:kindT Tryd.prog 125=some .func:=by kernel_rfl
@[simp] theorem zero125:zeroT Tryd.prog 125=some (.nilFunc):=by kernel_rfl
@[simp] theorem size126:sizeT Tryd.prog 126=some 1:=by kernel_rfl
@[simp] theorem bytes126:bytesT Tryd.prog 126=some 8:=by kernel_rfl
@[simp] theorem agg126:aggT Tryd.prog 126=some false:=by kernel_rfl
@[simp] theorem kind126:kindT Tryd.prog 126=some .func:=by kernel_rfl
@[simp] theorem zero126:zeroT Tryd.prog 126=some (.nilFunc):=by kernel_rfl
@[simp] theorem size127:sizeT Tryd.prog 127=some 1:=by kernel_rfl
@[simp] theorem bytes127:bytesT Tryd.prog 127=some 24:=by kernel_rfl
@[simp] theorem agg127:aggT Tryd.prog 127=some false:=by kernel_rfl
@[simp] theorem kind127:kindT Tryd.prog 127=some .slice:=by kernel_rfl
@[simp] theorem elem127:elemT Tryd.prog 127=some 9:=by kernel_rfl
@[simp] theorem zero127:zeroT Tryd.prog 127=some (.slice none 0 0):=by kernel_rfl
@[simp] theorem size128:sizeT Tryd.prog 128=some 1:=by kernel_rfl
@[simp] theorem bytes128:bytesT Tryd.prog 128=some 24:=by kernel_rfl
@[simp] theorem agg128:aggT Tryd.prog 128=some false:=by kernel_rfl
@[simp] theorem kind128:kindT Tryd.prog 128=some .slice:=by kernel_rfl
@[simp] theorem elem128:elemT Tryd.prog 128=some 134:=by kernel_rfl
@[simp] theorem zero128:zeroT Tryd.prog 128=some (.slice none 0 0):=by kernel_rfl
@[simp] theorem size129:sizeT Tryd.prog 129=some 1:=by kernel_rfl
@[simp] theorem bytes129:bytesT Tryd.prog 129=some 24:=by kernel_rfl
@[simp] theorem agg129:aggT Tryd.prog 129=some false:=by kernel_rfl
@[simp] theorem kind129:kindT Tryd.prog 129=some .slice:=by kernel_rfl
@[simp] theorem elem129:elemT Tryd.prog 129=some 127:=by kernel_rfl
@[simp] theorem zero129:zeroT Tryd.prog 129=some (.slice none 0 0):=by kernel_rfl
@[simp] theorem size130:sizeT Tryd.prog 130=some 6:=by kernel_rfl
@[simp] theorem bytes130:bytesT Tryd.prog 130=some 144:=by kernel_rfl
@[simp] theorem agg130:aggT Tryd.prog 130=some true:=by kernel_rfl
@[simp] theorem kind130:kindT Tryd.prog 130=some .struct:=by kernel_rfl
@[simp] theorem field130_0:fieldT Tryd.prog 130 0=some (0,1,127):=by kernel_rfl
@[simp] theorem field130_1:fieldT Tryd.prog 130 1=some (1,1,128):=by kernel_rfl
@[simp] theorem field130_2:fieldT Tryd.prog 130 2=some (2,1,127):=by kernel_rfl
@[simp] theorem field130_3:fieldT Tryd.prog 130 3=some (3,1,22):=by kernel_rfl
@[simp] theorem field130_4:fieldT Tryd.prog 130 4=some (4,1,129):=by kernel_rfl
@[simp] theorem field130_5:fieldT Tryd.prog 130 5=some (5,1,22):=by kernel_rfl
@[simp] theorem places130:placesT Tryd.prog 130=some [(0,1),(1,1),(2,1),(3,1),(4,1),(5,1)]:=by kernel_rfl
@[simp] theorem zero130:zeroT Tryd.prog 130=some (.agg #[.slice none 0 0,.slice none 0 0,.slice none 0 0,.slice none 0 0,.slice none 0 0,.slice none 0 0]):=by kernel_rfl
@[simp] theorem size131:sizeT Tryd.prog 131=some 6:=by kernel_rfl
@[simp] theorem bytes131:bytesT Tryd.prog 131=some 144:=by kernel_rfl
@[simp] theorem agg131:aggT Tryd.prog 131=some true:=by kernel_rfl
@[simp] theorem kind131:kindT Tryd.prog 131=some .struct:=by kernel_rfl
@[simp] theorem field131_0:fieldT Tryd.prog 131 0=some (0,1,127):=by kernel_rfl
@[simp] theorem field131_1:fieldT Tryd.prog 131 1=some (1,1,128):=by kernel_rfl
@[simp] theorem field131_2:fieldT Tryd.prog 131 2=some (2,1,127):=by kernel_rfl
@[simp] theorem field131_3:fieldT Tryd.prog 131 3=some (3,1,22):=by kernel_rfl
@[simp] theorem field131_4:fieldT Tryd.prog 131 4=some (4,1,129):=by kernel_rfl
@[simp] theorem field131_5:fieldT Tryd.prog 131 5=some (5,1,22):=by kernel_rfl
@[simp] theorem places131:placesT Tryd.prog 131=some [(0,1),(1,1),(2,1),(3,1),(4,1),(5,1)]:=by kernel_rfl
@[simp] theorem zero131:zeroT Tryd.prog 131=some (.agg #[.slice none 0 0,.slice none 0 0,.slice none 0 0,.slice none 0 0,.slice none 0 0,.slice none 0 0]):=by kernel_rfl
@[simp] theorem size132:sizeT Tryd.prog 132=some 1:=by kernel_rfl
@[simp] theorem bytes132:bytesT Tryd.prog 132=some 8:=by kernel_rfl
@[simp] theorem agg132:aggT Tryd.prog 132=some false:=by kernel_rfl
@[simp] theorem kind132:kindT Tryd.prog 132=some .func:=by kernel_rfl
@[simp] theorem zero132:zeroT Tryd.prog 132=some (.nilFunc):=by kernel_rfl
@[simp] theorem size133:sizeT Tryd.prog 133=some 1:=by kernel_rfl
@[simp] theorem bytes133:bytesT Tryd.prog 133=some 8:=by kernel_rfl
@[simp] theorem agg133:aggT Tryd.prog 133=some false:=by kernel_rfl
@[simp] theorem kind133:kindT Tryd.prog 133=some .func:=by kernel_rfl
@[simp] theorem zero133:zeroT Tryd.prog 133=some (.nilFunc):=by kernel_rfl
@[simp] theorem size134:sizeT Tryd.prog 134=some 3:=by kernel_rfl
@[simp] theorem bytes134:bytesT Tryd.prog 134=some 24:=by kernel_rfl
@[simp] theorem agg134:aggT Tryd.prog 134=some true:=by kernel_rfl
@[simp] theorem kind134:kindT Tryd.prog 134=some .struct:=by kernel_rfl
@[simp] theorem field134_0:fieldT Tryd.prog 134 0=some (0,1,3):=by kernel_rfl
@[simp] theorem field134_1:fieldT Tryd.prog 134 1=some (1,1,3):=by kernel_rfl
@[simp] theorem field134_2:fieldT Tryd.prog 134 2=some (2,1,3):=by kernel_rfl
@[simp] theorem places134:placesT Tryd.prog 134=some [(0,1),(1,1),(2,1)]:=by kernel_rfl
@[simp] theorem zero134:zeroT Tryd.prog 134=some (.agg #[.int .i64 0,.int .i64 0,.int .i64 0]):=by kernel_rfl
@[simp] theorem size135:sizeT Tryd.prog 135=some 1:=by kernel_rfl
@[simp] theorem bytes135:bytesT Tryd.prog 135=some 0:=by kernel_rfl
@[simp] theorem agg135:aggT Tryd.prog 135=some false:=by kernel_rfl
@[simp] theorem kind135:kindT Tryd.prog 135=some .other:=by kernel_rfl
@[simp] theorem size136:sizeT Tryd.prog 136=some 1:=by kernel_rfl
@[simp] theorem bytes136:bytesT Tryd.prog 136=some 8:=by kernel_rfl
@[simp] theorem agg136:aggT Tryd.prog 136=some false:=by kernel_rfl
@[simp] theorem kind136:kindT Tryd.prog 136=some .func:=by kernel_rfl
@[simp] theorem zero136:zeroT Tryd.prog 136=some (.nilFunc):=by kernel_rfl
@[simp] theorem size137:sizeT Tryd.prog 137=some 1:=by kernel_rfl
@[simp] theorem bytes137:bytesT Tryd.prog 137=some 8:=by kernel_rfl
@[simp] theorem agg137:aggT Tryd.prog 137=some false:=by kernel_rfl
@[simp] theorem kind137:kindT Tryd.prog 137=some .func:=by kernel_rfl
@[simp] theorem zero137:zeroT Tryd.prog 137=some (.nilFunc):=by kernel_rfl
@[simp] theorem size138:sizeT Tryd.prog 138=some 1:=by kernel_rfl
@[simp] theorem bytes138:bytesT Tryd.prog 138=some 8:=by kernel_rfl
@[simp] theorem agg138:aggT Tryd.prog 138=some false:=by kernel_rfl
@[simp] theorem kind138:kindT Tryd.prog 138=some .func:=by kernel_rfl
@[simp] theorem zero138:zeroT Tryd.prog 138=some (.nilFunc):=by kernel_rfl
@[simp] theorem size139:sizeT Tryd.prog 139=some 1:=by kernel_rfl
@[simp] theorem bytes139:bytesT Tryd.prog 139=some 8:=by kernel_rfl
@[simp] theorem agg139:aggT Tryd.prog 139=some false:=by kernel_rfl
@[simp] theorem kind139:kindT Tryd.prog 139=some .func:=by kernel_rfl
@[simp] theorem zero139:zeroT Tryd.prog 139=some (.nilFunc):=by kernel_rfl
@[simp] theorem size140:sizeT Tryd.prog 140=some 1:=by kernel_rfl
@[simp] theorem bytes140:bytesT Tryd.prog 140=some 0:=by kernel_rfl
@[simp] theorem agg140:aggT Tryd.prog 140=some false:=by kernel_rfl
@[simp] theorem kind140:kindT Tryd.prog 140=some .other:=by kernel_rfl
@[simp] theorem size141:sizeT Tryd.prog 141=some 1:=by kernel_rfl
@[simp] theorem bytes141:bytesT Tryd.prog 141=some 8:=by kernel_rfl
@[simp] theorem agg141:aggT Tryd.prog 141=some false:=by kernel_rfl
@[simp] theorem kind141:kindT Tryd.prog 141=some .func:=by kernel_rfl
@[simp] theorem zero141:zeroT Tryd.prog 141=some (.nilFunc):=by kernel_rfl
@[simp] theorem size142:sizeT Tryd.prog 142=some 3:=by kernel_rfl
@[simp] theorem bytes142:bytesT Tryd.prog 142=some 32:=by kernel_rfl
@[simp] theorem agg142:aggT Tryd.prog 142=some true:=by kernel_rfl
@[simp] theorem kind142:kindT Tryd.prog 142=some .struct:=by kernel_rfl
@[simp] theorem field142_0:fieldT Tryd.prog 142 0=some (0,1,3):=by kernel_rfl
@[simp] theorem field142_1:fieldT Tryd.prog 142 1=some (1,1,9):=by kernel_rfl
@[simp] theorem field142_2:fieldT Tryd.prog 142 2=some (2,1,3):=by kernel_rfl
@[simp] theorem places142:placesT Tryd.prog 142=some [(0,1),(1,1),(2,1)]:=by kernel_rfl
@[simp] theorem zero142 : zeroT Tryd.prog 142 = some (.agg #[.int .i64 0, .string "".toByteArray, .int .i64 0]) := by kernel_rfl
@[simp] theorem size143:sizeT Tryd.prog 143=some 3:=by kernel_rfl
@[simp] theorem bytes143:bytesT Tryd.prog 143=some 32:=by kernel_rfl
@[simp] theorem agg143:aggT Tryd.prog 143=some true:=by kernel_rfl
@[simp] theorem kind143:kindT Tryd.prog 143=some .struct:=by kernel_rfl
@[simp] theorem field143_0:fieldT Tryd.prog 143 0=some (0,1,3):=by kernel_rfl
@[simp] theorem field143_1:fieldT Tryd.prog 143 1=some (1,1,9):=by kernel_rfl
@[simp] theorem field143_2:fieldT Tryd.prog 143 2=some (2,1,3):=by kernel_rfl
@[simp] theorem places143:placesT Tryd.prog 143=some [(0,1),(1,1),(2,1)]:=by kernel_rfl
@[simp] theorem zero143 : zeroT Tryd.prog 143 = some (.agg #[.int .i64 0, .string "".toByteArray, .int .i64 0]) := by kernel_rfl
@[simp] theorem size144:sizeT Tryd.prog 144=some 1:=by kernel_rfl
@[simp] theorem bytes144:bytesT Tryd.prog 144=some 24:=by kernel_rfl
@[simp] theorem agg144:aggT Tryd.prog 144=some false:=by kernel_rfl
@[simp] theorem kind144:kindT Tryd.prog 144=some .slice:=by kernel_rfl
@[simp] theorem elem144:elemT Tryd.prog 144=some 163:=by kernel_rfl
@[simp] theorem zero144:zeroT Tryd.prog 144=some (.slice none 0 0):=by kernel_rfl
@[simp] theorem size145:sizeT Tryd.prog 145=some 8:=by kernel_rfl
@[simp] theorem bytes145:bytesT Tryd.prog 145=some 152:=by kernel_rfl
@[simp] theorem agg145:aggT Tryd.prog 145=some true:=by kernel_rfl
@[simp] theorem kind145:kindT Tryd.prog 145=some .struct:=by kernel_rfl
@[simp] theorem field145_0:fieldT Tryd.prog 145 0=some (0,1,3):=by kernel_rfl
@[simp] theorem field145_1:fieldT Tryd.prog 145 1=some (1,1,3):=by kernel_rfl
@[simp] theorem field145_2:fieldT Tryd.prog 145 2=some (2,1,9):=by kernel_rfl
@[simp] theorem field145_3:fieldT Tryd.prog 145 3=some (3,1,38):=by kernel_rfl
@[simp] theorem field145_4:fieldT Tryd.prog 145 4=some (4,1,57):=by kernel_rfl
@[simp] theorem field145_5:fieldT Tryd.prog 145 5=some (5,1,57):=by kernel_rfl
@[simp] theorem field145_6:fieldT Tryd.prog 145 6=some (6,1,144):=by kernel_rfl
@[simp] theorem field145_7:fieldT Tryd.prog 145 7=some (7,1,56):=by kernel_rfl
@[simp] theorem places145:placesT Tryd.prog 145=some [(0,1),(1,1),(2,1),(3,1),(4,1),(5,1),(6,1),(7,1)]:=by kernel_rfl
@[simp] theorem zero145 : zeroT Tryd.prog 145 = some (.agg #[.int .i64 0, .int .i64 0, .string "".toByteArray, .slice none 0 0, .slice none 0 0, .slice none 0 0, .slice none 0 0, .slice none 0 0]) := by kernel_rfl
@[simp] theorem size146:sizeT Tryd.prog 146=some 8:=by kernel_rfl
@[simp] theorem bytes146:bytesT Tryd.prog 146=some 152:=by kernel_rfl
@[simp] theorem agg146:aggT Tryd.prog 146=some true:=by kernel_rfl
@[simp] theorem kind146:kindT Tryd.prog 146=some .struct:=by kernel_rfl
@[simp] theorem field146_0:fieldT Tryd.prog 146 0=some (0,1,3):=by kernel_rfl
@[simp] theorem field146_1:fieldT Tryd.prog 146 1=some (1,1,3):=by kernel_rfl
@[simp] theorem field146_2:fieldT Tryd.prog 146 2=some (2,1,9):=by kernel_rfl
@[simp] theorem field146_3:fieldT Tryd.prog 146 3=some (3,1,38):=by kernel_rfl
@[simp] theorem field146_4:fieldT Tryd.prog 146 4=some (4,1,57):=by kernel_rfl
@[simp] theorem field146_5:fieldT Tryd.prog 146 5=some (5,1,57):=by kernel_rfl
@[simp] theorem field146_6:fieldT Tryd.prog 146 6=some (6,1,144):=by kernel_rfl
@[simp] theorem field146_7:fieldT Tryd.prog 146 7=some (7,1,56):=by kernel_rfl
@[simp] theorem places146:placesT Tryd.prog 146=some [(0,1),(1,1),(2,1),(3,1),(4,1),(5,1),(6,1),(7,1)]:=by kernel_rfl
@[simp] theorem zero146 : zeroT Tryd.prog 146 = some (.agg #[.int .i64 0, .int .i64 0, .string "".toByteArray, .slice none 0 0, .slice none 0 0, .slice none 0 0, .slice none 0 0, .slice none 0 0]) := by kernel_rfl
@[simp] theorem size147:sizeT Tryd.prog 147=some 1:=by kernel_rfl
@[simp] theorem bytes147:bytesT Tryd.prog 147=some 8:=by kernel_rfl
@[simp] theorem agg147:aggT Tryd.prog 147=some false:=by kernel_rfl
@[simp] theorem kind147:kindT Tryd.prog 147=some .func:=by kernel_rfl
@[simp] theorem zero147:zeroT Tryd.prog 147=some (.nilFunc):=by kernel_rfl
@[simp] theorem size148:sizeT Tryd.prog 148=some 0:=by kernel_rfl
@[simp] theorem bytes148:bytesT Tryd.prog 148=some 0:=by kernel_rfl
@[simp] theorem agg148:aggT Tryd.prog 148=some true:=by kernel_rfl
@[simp] theorem kind148:kindT Tryd.prog 148=some .struct:=by kernel_rfl
@[simp] theorem places148:placesT Tryd.prog 148=some []:=by kernel_rfl
@[simp] theorem zero148:zeroT Tryd.prog 148=some (.agg #[]):=by kernel_rfl
@[simp] theorem size149:sizeT Tryd.prog 149=some 0:=by kernel_rfl
@[simp] theorem bytes149:bytesT Tryd.prog 149=some 0:=by kernel_rfl
@[simp] theorem agg149:aggT Tryd.prog 149=some true:=by kernel_rfl
@[simp] theorem kind149:kindT Tryd.prog 149=some .struct:=by kernel_rfl
@[simp] theorem places149:placesT Tryd.prog 149=some []:=by kernel_rfl
@[simp] theorem zero149:zeroT Tryd.prog 149=some (.agg #[]):=by kernel_rfl
@[simp] theorem size150:sizeT Tryd.prog 150=some 0:=by kernel_rfl
@[simp] theorem bytes150:bytesT Tryd.prog 150=some 0:=by kernel_rfl
@[simp] theorem agg150:aggT Tryd.prog 150=some true:=by kernel_rfl
@[simp] theorem kind150:kindT Tryd.prog 150=some .struct:=by kernel_rfl
@[simp] theorem places150:placesT Tryd.prog 150=some []:=by kernel_rfl
@[simp] theorem zero150:zeroT Tryd.prog 150=some (.agg #[]):=by kernel_rfl
@[simp] theorem size151:sizeT Tryd.prog 151=some 0:=by kernel_rfl
@[simp] theorem bytes151:bytesT Tryd.prog 151=some 0:=by kernel_rfl
@[simp] theorem agg151:aggT Tryd.prog 151=some true:=by kernel_rfl
@[simp] theorem kind151:kindT Tryd.prog 151=some .struct:=by kernel_rfl
@[simp] theorem places151:placesT Tryd.prog 151=some []:=by kernel_rfl
@[simp] theorem zero151:zeroT Tryd.prog 151=some (.agg #[]):=by kernel_rfl
@[simp] theorem size152:sizeT Tryd.prog 152=some 0:=by kernel_rfl
@[simp] theorem bytes152:bytesT Tryd.prog 152=some 0:=by kernel_rfl
@[simp] theorem agg152:aggT Tryd.prog 152=some true:=by kernel_rfl
@[simp] theorem kind152:kindT Tryd.prog 152=some .struct:=by kernel_rfl
@[simp] theorem field152_0:fieldT Tryd.prog 152 0=some (0,0,151):=by kernel_rfl
@[simp] theorem places152:placesT Tryd.prog 152=some [(0,0)]:=by kernel_rfl
@[simp] theorem zero152:zeroT Tryd.prog 152=some (.agg #[]):=by kernel_rfl
@[simp] theorem size153:sizeT Tryd.prog 153=some 0:=by kernel_rfl
@[simp] theorem bytes153:bytesT Tryd.prog 153=some 0:=by kernel_rfl
@[simp] theorem agg153:aggT Tryd.prog 153=some true:=by kernel_rfl
@[simp] theorem kind153:kindT Tryd.prog 153=some .struct:=by kernel_rfl
@[simp] theorem field153_0:fieldT Tryd.prog 153 0=some (0,0,151):=by kernel_rfl
@[simp] theorem places153:placesT Tryd.prog 153=some [(0,0)]:=by kernel_rfl
@[simp] theorem zero153:zeroT Tryd.prog 153=some (.agg #[]):=by kernel_rfl
@[simp] theorem size154:sizeT Tryd.prog 154=some 1:=by kernel_rfl
@[simp] theorem bytes154:bytesT Tryd.prog 154=some 8:=by kernel_rfl
@[simp] theorem agg154:aggT Tryd.prog 154=some false:=by kernel_rfl
@[simp] theorem kind154:kindT Tryd.prog 154=some .func:=by kernel_rfl
@[simp] theorem zero154:zeroT Tryd.prog 154=some (.nilFunc):=by kernel_rfl
@[simp] theorem size155:sizeT Tryd.prog 155=some 1:=by kernel_rfl
@[simp] theorem bytes155:bytesT Tryd.prog 155=some 8:=by kernel_rfl
@[simp] theorem agg155:aggT Tryd.prog 155=some false:=by kernel_rfl
@[simp] theorem kind155:kindT Tryd.prog 155=some .func:=by kernel_rfl
@[simp] theorem zero155:zeroT Tryd.prog 155=some (.nilFunc):=by kernel_rfl
@[simp] theorem size156:sizeT Tryd.prog 156=some 1:=by kernel_rfl
@[simp] theorem bytes156:bytesT Tryd.prog 156=some 8:=by kernel_rfl
@[simp] theorem agg156:aggT Tryd.prog 156=some false:=by kernel_rfl
@[simp] theorem kind156:kindT Tryd.prog 156=some .func:=by kernel_rfl
@[simp] theorem zero156:zeroT Tryd.prog 156=some (.nilFunc):=by kernel_rfl
@[simp] theorem size157:sizeT Tryd.prog 157=some 2:=by kernel_rfl
@[simp] theorem bytes157:bytesT Tryd.prog 157=some 32:=by kernel_rfl
@[simp] theorem agg157:aggT Tryd.prog 157=some true:=by kernel_rfl
@[simp] theorem kind157:kindT Tryd.prog 157=some .array:=by kernel_rfl
@[simp] theorem placesN157:placesT Tryd.prog 157=none:=by kernel_rfl
@[simp] theorem arr157:arrT Tryd.prog 157=some (2,9):=by kernel_rfl
@[simp] theorem zero157 : zeroT Tryd.prog 157 = some (.agg #[.string "".toByteArray, .string "".toByteArray]) := by kernel_rfl
@[simp] theorem size158:sizeT Tryd.prog 158=some 6:=by kernel_rfl
@[simp] theorem bytes158:bytesT Tryd.prog 158=some 96:=by kernel_rfl
@[simp] theorem agg158:aggT Tryd.prog 158=some true:=by kernel_rfl
@[simp] theorem kind158:kindT Tryd.prog 158=some .array:=by kernel_rfl
@[simp] theorem placesN158:placesT Tryd.prog 158=none:=by kernel_rfl
@[simp] theorem arr158:arrT Tryd.prog 158=some (6,9):=by kernel_rfl
@[simp] theorem zero158 : zeroT Tryd.prog 158 = some (.agg #[.string "".toByteArray, .string "".toByteArray, .string "".toByteArray, .string "".toByteArray, .string "".toByteArray, .string "".toByteArray]) := by kernel_rfl
@[simp] theorem size159:sizeT Tryd.prog 159=some 13:=by kernel_rfl
@[simp] theorem bytes159:bytesT Tryd.prog 159=some 208:=by kernel_rfl
@[simp] theorem agg159:aggT Tryd.prog 159=some true:=by kernel_rfl
@[simp] theorem kind159:kindT Tryd.prog 159=some .array:=by kernel_rfl
@[simp] theorem placesN159:placesT Tryd.prog 159=none:=by kernel_rfl
@[simp] theorem arr159:arrT Tryd.prog 159=some (13,9):=by kernel_rfl
@[simp] theorem zero159 : zeroT Tryd.prog 159 = some (.agg #[.string "".toByteArray, .string "".toByteArray, .string "".toByteArray, .string "".toByteArray, .string "".toByteArray, .string "".toByteArray, .string "".toByteArray, .string "".toByteArray, .string "".toByteArray, .string "".toByteArray, .string "".toByteArray, .string "".toByteArray, .string "".toByteArray]) := by kernel_rfl
@[simp] theorem size160:sizeT Tryd.prog 160=some 13:=by kernel_rfl
@[simp] theorem bytes160:bytesT Tryd.prog 160=some 104:=by kernel_rfl
@[simp] theorem agg160:aggT Tryd.prog 160=some true:=by kernel_rfl
@[simp] theorem kind160:kindT Tryd.prog 160=some .array:=by kernel_rfl
@[simp] theorem placesN160:placesT Tryd.prog 160=none:=by kernel_rfl
@[simp] theorem arr160:arrT Tryd.prog 160=some (13,3):=by kernel_rfl
@[simp] theorem zero160:zeroT Tryd.prog 160=some (.agg #[.int .i64 0,.int .i64 0,.int .i64 0,.int .i64 0,.int .i64 0,.int .i64 0,.int .i64 0,.int .i64 0,.int .i64 0,.int .i64 0,.int .i64 0,.int .i64 0,.int .i64 0]):=by kernel_rfl
@[simp] theorem size161:sizeT Tryd.prog 161=some 1:=by kernel_rfl
@[simp] theorem bytes161:bytesT Tryd.prog 161=some 8:=by kernel_rfl
@[simp] theorem agg161:aggT Tryd.prog 161=some false:=by kernel_rfl
@[simp] theorem kind161:kindT Tryd.prog 161=some .func:=by kernel_rfl
@[simp] theorem zero161:zeroT Tryd.prog 161=some (.nilFunc):=by kernel_rfl
@[simp] theorem size162:sizeT Tryd.prog 162=some 4:=by kernel_rfl
@[simp] theorem bytes162:bytesT Tryd.prog 162=some 72:=by kernel_rfl
@[simp] theorem agg162:aggT Tryd.prog 162=some true:=by kernel_rfl
@[simp] theorem kind162:kindT Tryd.prog 162=some .struct:=by kernel_rfl
@[simp] theorem field162_0:fieldT Tryd.prog 162 0=some (0,1,3):=by kernel_rfl
@[simp] theorem field162_1:fieldT Tryd.prog 162 1=some (1,1,9):=by kernel_rfl
@[simp] theorem field162_2:fieldT Tryd.prog 162 2=some (2,1,38):=by kernel_rfl
@[simp] theorem field162_3:fieldT Tryd.prog 162 3=some (3,1,56):=by kernel_rfl
@[simp] theorem places162:placesT Tryd.prog 162=some [(0,1),(1,1),(2,1),(3,1)]:=by kernel_rfl
@[simp] theorem zero162 : zeroT Tryd.prog 162 = some (.agg #[.int .i64 0, .string "".toByteArray, .slice none 0 0, .slice none 0 0]) := by kernel_rfl
@[simp] theorem size163:sizeT Tryd.prog 163=some 4:=by kernel_rfl
@[simp] theorem bytes163:bytesT Tryd.prog 163=some 72:=by kernel_rfl
@[simp] theorem agg163:aggT Tryd.prog 163=some true:=by kernel_rfl
@[simp] theorem kind163:kindT Tryd.prog 163=some .struct:=by kernel_rfl
@[simp] theorem field163_0:fieldT Tryd.prog 163 0=some (0,1,3):=by kernel_rfl
@[simp] theorem field163_1:fieldT Tryd.prog 163 1=some (1,1,9):=by kernel_rfl
@[simp] theorem field163_2:fieldT Tryd.prog 163 2=some (2,1,38):=by kernel_rfl
@[simp] theorem field163_3:fieldT Tryd.prog 163 3=some (3,1,56):=by kernel_rfl
@[simp] theorem places163:placesT Tryd.prog 163=some [(0,1),(1,1),(2,1),(3,1)]:=by kernel_rfl
@[simp] theorem zero163 : zeroT Tryd.prog 163 = some (.agg #[.int .i64 0, .string "".toByteArray, .slice none 0 0, .slice none 0 0]) := by kernel_rfl
@[simp] theorem size164:sizeT Tryd.prog 164=some 1:=by kernel_rfl
@[simp] theorem bytes164:bytesT Tryd.prog 164=some 8:=by kernel_rfl
@[simp] theorem agg164:aggT Tryd.prog 164=some false:=by kernel_rfl
@[simp] theorem kind164:kindT Tryd.prog 164=some .func:=by kernel_rfl
@[simp] theorem zero164:zeroT Tryd.prog 164=some (.nilFunc):=by kernel_rfl
@[simp] theorem size165:sizeT Tryd.prog 165=some 1:=by kernel_rfl
@[simp] theorem bytes165:bytesT Tryd.prog 165=some 24:=by kernel_rfl
@[simp] theorem agg165:aggT Tryd.prog 165=some false:=by kernel_rfl
@[simp] theorem kind165:kindT Tryd.prog 165=some .slice:=by kernel_rfl
@[simp] theorem elem165:elemT Tryd.prog 165=some 84:=by kernel_rfl
@[simp] theorem zero165:zeroT Tryd.prog 165=some (.slice none 0 0):=by kernel_rfl
@[simp] theorem size166:sizeT Tryd.prog 166=some 1:=by kernel_rfl
@[simp] theorem bytes166:bytesT Tryd.prog 166=some 8:=by kernel_rfl
@[simp] theorem agg166:aggT Tryd.prog 166=some false:=by kernel_rfl
@[simp] theorem kind166:kindT Tryd.prog 166=some .func:=by kernel_rfl
@[simp] theorem zero166:zeroT Tryd.prog 166=some (.nilFunc):=by kernel_rfl
@[simp] theorem size167:sizeT Tryd.prog 167=some 24:=by kernel_rfl
@[simp] theorem bytes167:bytesT Tryd.prog 167=some 24:=by kernel_rfl
@[simp] theorem agg167:aggT Tryd.prog 167=some true:=by kernel_rfl
@[simp] theorem kind167:kindT Tryd.prog 167=some .array:=by kernel_rfl
@[simp] theorem placesN167:placesT Tryd.prog 167=none:=by kernel_rfl
@[simp] theorem arr167:arrT Tryd.prog 167=some (24,5):=by kernel_rfl
@[simp] theorem zero167:zeroT Tryd.prog 167=some (.agg #[.int .u8 0,.int .u8 0,.int .u8 0,.int .u8 0,.int .u8 0,.int .u8 0,.int .u8 0,.int .u8 0,.int .u8 0,.int .u8 0,.int .u8 0,.int .u8 0,.int .u8 0,.int .u8 0,.int .u8 0,.int .u8 0,.int .u8 0,.int .u8 0,.int .u8 0,.int .u8 0,.int .u8 0,.int .u8 0,.int .u8 0,.int .u8 0]):=by kernel_rfl
@[simp] theorem size168:sizeT Tryd.prog 168=some 1:=by kernel_rfl
@[simp] theorem bytes168:bytesT Tryd.prog 168=some 8:=by kernel_rfl
@[simp] theorem agg168:aggT Tryd.prog 168=some false:=by kernel_rfl
@[simp] theorem kind168:kindT Tryd.prog 168=some (.int .u64):=by kernel_rfl
@[simp] theorem zero168:zeroT Tryd.prog 168=some (.int .u64 0):=by kernel_rfl
@[simp] theorem size169:sizeT Tryd.prog 169=some 1:=by kernel_rfl
@[simp] theorem bytes169:bytesT Tryd.prog 169=some 8:=by kernel_rfl
@[simp] theorem agg169:aggT Tryd.prog 169=some false:=by kernel_rfl
@[simp] theorem kind169:kindT Tryd.prog 169=some .func:=by kernel_rfl
@[simp] theorem zero169:zeroT Tryd.prog 169=some (.nilFunc):=by kernel_rfl
@[simp] theorem size170:sizeT Tryd.prog 170=some 1:=by kernel_rfl
@[simp] theorem bytes170:bytesT Tryd.prog 170=some 8:=by kernel_rfl
@[simp] theorem agg170:aggT Tryd.prog 170=some false:=by kernel_rfl
@[simp] theorem kind170:kindT Tryd.prog 170=some .func:=by kernel_rfl
@[simp] theorem zero170:zeroT Tryd.prog 170=some (.nilFunc):=by kernel_rfl
@[simp] theorem size171:sizeT Tryd.prog 171=some 1:=by kernel_rfl
@[simp] theorem bytes171:bytesT Tryd.prog 171=some 0:=by kernel_rfl
@[simp] theorem agg171:aggT Tryd.prog 171=some false:=by kernel_rfl
@[simp] theorem kind171:kindT Tryd.prog 171=some .other:=by kernel_rfl
@[simp] theorem size172:sizeT Tryd.prog 172=some 1:=by kernel_rfl
@[simp] theorem bytes172:bytesT Tryd.prog 172=some 8:=by kernel_rfl
@[simp] theorem agg172:aggT Tryd.prog 172=some false:=by kernel_rfl
@[simp] theorem kind172:kindT Tryd.prog 172=some .func:=by kernel_rfl
@[simp] theorem zero172:zeroT Tryd.prog 172=some (.nilFunc):=by kernel_rfl
@[simp] theorem size173:sizeT Tryd.prog 173=some 1:=by kernel_rfl
@[simp] theorem bytes173:bytesT Tryd.prog 173=some 8:=by kernel_rfl
@[simp] theorem agg173:aggT Tryd.prog 173=some false:=by kernel_rfl
@[simp] theorem kind173:kindT Tryd.prog 173=some .func:=by kernel_rfl
@[simp] theorem zero173:zeroT Tryd.prog 173=some (.nilFunc):=by kernel_rfl
@[simp] theorem size174:sizeT Tryd.prog 174=some 1:=by kernel_rfl
@[simp] theorem bytes174:bytesT Tryd.prog 174=some 8:=by kernel_rfl
@[simp] theorem agg174:aggT Tryd.prog 174=some false:=by kernel_rfl
@[simp] theorem kind174:kindT Tryd.prog 174=some .func:=by kernel_rfl
@[simp] theorem zero174:zeroT Tryd.prog 174=some (.nilFunc):=by kernel_rfl
@[simp] theorem size175:sizeT Tryd.prog 175=some 1:=by kernel_rfl
@[simp] theorem bytes175:bytesT Tryd.prog 175=some 8:=by kernel_rfl
@[simp] theorem agg175:aggT Tryd.prog 175=some false:=by kernel_rfl
@[simp] theorem kind175:kindT Tryd.prog 175=some .func:=by kernel_rfl
@[simp] theorem zero175:zeroT Tryd.prog 175=some (.nilFunc):=by kernel_rfl
@[simp] theorem size176:sizeT Tryd.prog 176=some 1:=by kernel_rfl
@[simp] theorem bytes176:bytesT Tryd.prog 176=some 8:=by kernel_rfl
@[simp] theorem agg176:aggT Tryd.prog 176=some false:=by kernel_rfl
@[simp] theorem kind176:kindT Tryd.prog 176=some .func:=by kernel_rfl
@[simp] theorem zero176:zeroT Tryd.prog 176=some (.nilFunc):=by kernel_rfl
@[simp] theorem size177:sizeT Tryd.prog 177=some 20:=by kernel_rfl
@[simp] theorem bytes177:bytesT Tryd.prog 177=some 160:=by kernel_rfl
@[simp] theorem agg177:aggT Tryd.prog 177=some true:=by kernel_rfl
@[simp] theorem kind177:kindT Tryd.prog 177=some .array:=by kernel_rfl
@[simp] theorem placesN177:placesT Tryd.prog 177=none:=by kernel_rfl
@[simp] theorem arr177:arrT Tryd.prog 177=some (20,168):=by kernel_rfl
@[simp] theorem zero177:zeroT Tryd.prog 177=some (.agg #[.int .u64 0,.int .u64 0,.int .u64 0,.int .u64 0,.int .u64 0,.int .u64 0,.int .u64 0,.int .u64 0,.int .u64 0,.int .u64 0,.int .u64 0,.int .u64 0,.int .u64 0,.int .u64 0,.int .u64 0,.int .u64 0,.int .u64 0,.int .u64 0,.int .u64 0,.int .u64 0]):=by kernel_rfl
@[simp] theorem size178:sizeT Tryd.prog 178=some 1:=by kernel_rfl
@[simp] theorem bytes178:bytesT Tryd.prog 178=some 4:=by kernel_rfl
@[simp] theorem agg178:aggT Tryd.prog 178=some false:=by kernel_rfl
@[simp] theorem kind178:kindT Tryd.prog 178=some (.int .u32):=by kernel_rfl
@[simp] theorem zero178:zeroT Tryd.prog 178=some (.int .u32 0):=by kernel_rfl
@[simp] theorem size179:sizeT Tryd.prog 179=some 65:=by kernel_rfl
@[simp] theorem bytes179:bytesT Tryd.prog 179=some 65:=by kernel_rfl
@[simp] theorem agg179:aggT Tryd.prog 179=some true:=by kernel_rfl
@[simp] theorem kind179:kindT Tryd.prog 179=some .array:=by kernel_rfl
@[simp] theorem placesN179:placesT Tryd.prog 179=none:=by kernel_rfl
@[simp] theorem arr179:arrT Tryd.prog 179=some (65,5):=by kernel_rfl
@[simp] theorem size180:sizeT Tryd.prog 180=some 1:=by kernel_rfl
@[simp] theorem bytes180:bytesT Tryd.prog 180=some 8:=by kernel_rfl
@[simp] theorem agg180:aggT Tryd.prog 180=some false:=by kernel_rfl
@[simp] theorem kind180:kindT Tryd.prog 180=some (.int .u64):=by kernel_rfl
@[simp] theorem zero180:zeroT Tryd.prog 180=some (.int .u64 0):=by kernel_rfl
@[simp] theorem size181:sizeT Tryd.prog 181=some 1:=by kernel_rfl
@[simp] theorem bytes181:bytesT Tryd.prog 181=some 8:=by kernel_rfl
@[simp] theorem agg181:aggT Tryd.prog 181=some false:=by kernel_rfl
@[simp] theorem kind181:kindT Tryd.prog 181=some .func:=by kernel_rfl
@[simp] theorem zero181:zeroT Tryd.prog 181=some (.nilFunc):=by kernel_rfl
@[simp] theorem size182:sizeT Tryd.prog 182=some 1:=by kernel_rfl
@[simp] theorem bytes182:bytesT Tryd.prog 182=some 8:=by kernel_rfl
@[simp] theorem agg182:aggT Tryd.prog 182=some false:=by kernel_rfl
@[simp] theorem kind182:kindT Tryd.prog 182=some .func:=by kernel_rfl
@[simp] theorem zero182:zeroT Tryd.prog 182=some (.nilFunc):=by kernel_rfl
@[simp] theorem size183:sizeT Tryd.prog 183=some 3:=by kernel_rfl
@[simp] theorem bytes183:bytesT Tryd.prog 183=some 48:=by kernel_rfl
@[simp] theorem agg183:aggT Tryd.prog 183=some true:=by kernel_rfl
@[simp] theorem kind183:kindT Tryd.prog 183=some .array:=by kernel_rfl
@[simp] theorem placesN183:placesT Tryd.prog 183=none:=by kernel_rfl
@[simp] theorem arr183:arrT Tryd.prog 183=some (3,9):=by kernel_rfl
@[simp] theorem zero183 : zeroT Tryd.prog 183 = some (.agg #[.string "".toByteArray, .string "".toByteArray, .string "".toByteArray]) := by kernel_rfl
@[simp] theorem size184:sizeT Tryd.prog 184=some 1:=by kernel_rfl
@[simp] theorem bytes184:bytesT Tryd.prog 184=some 8:=by kernel_rfl
@[simp] theorem agg184:aggT Tryd.prog 184=some false:=by kernel_rfl
@[simp] theorem kind184:kindT Tryd.prog 184=some .func:=by kernel_rfl
@[simp] theorem zero184:zeroT Tryd.prog 184=some (.nilFunc):=by kernel_rfl
@[simp] theorem size185:sizeT Tryd.prog 185=some 1:=by kernel_rfl
@[simp] theorem bytes185:bytesT Tryd.prog 185=some 8:=by kernel_rfl
@[simp] theorem agg185:aggT Tryd.prog 185=some false:=by kernel_rfl
@[simp] theorem kind185:kindT Tryd.prog 185=some .func:=by kernel_rfl
@[simp] theorem zero185:zeroT Tryd.prog 185=some (.nilFunc):=by kernel_rfl
@[simp] theorem size186:sizeT Tryd.prog 186=some 32:=by kernel_rfl
@[simp] theorem bytes186:bytesT Tryd.prog 186=some 32:=by kernel_rfl
@[simp] theorem agg186:aggT Tryd.prog 186=some true:=by kernel_rfl
@[simp] theorem kind186:kindT Tryd.prog 186=some .array:=by kernel_rfl
@[simp] theorem placesN186:placesT Tryd.prog 186=none:=by kernel_rfl
@[simp] theorem arr186:arrT Tryd.prog 186=some (32,5):=by kernel_rfl
@[simp] theorem zero186:zeroT Tryd.prog 186=some (.agg #[.int .u8 0,.int .u8 0,.int .u8 0,.int .u8 0,.int .u8 0,.int .u8 0,.int .u8 0,.int .u8 0,.int .u8 0,.int .u8 0,.int .u8 0,.int .u8 0,.int .u8 0,.int .u8 0,.int .u8 0,.int .u8 0,.int .u8 0,.int .u8 0,.int .u8 0,.int .u8 0,.int .u8 0,.int .u8 0,.int .u8 0,.int .u8 0,.int .u8 0,.int .u8 0,.int .u8 0,.int .u8 0,.int .u8 0,.int .u8 0,.int .u8 0,.int .u8 0]):=by kernel_rfl
@[simp] theorem size187:sizeT Tryd.prog 187=some 64:=by kernel_rfl
@[simp] theorem bytes187:bytesT Tryd.prog 187=some 64:=by kernel_rfl
@[simp] theorem agg187:aggT Tryd.prog 187=some true:=by kernel_rfl
@[simp] theorem kind187:kindT Tryd.prog 187=some .array:=by kernel_rfl
@[simp] theorem placesN187:placesT Tryd.prog 187=none:=by kernel_rfl
@[simp] theorem arr187:arrT Tryd.prog 187=some (64,5):=by kernel_rfl
@[simp] theorem zero187:zeroT Tryd.prog 187=some (.agg #[.int .u8 0,.int .u8 0,.int .u8 0,.int .u8 0,.int .u8 0,.int .u8 0,.int .u8 0,.int .u8 0,.int .u8 0,.int .u8 0,.int .u8 0,.int .u8 0,.int .u8 0,.int .u8 0,.int .u8 0,.int .u8 0,.int .u8 0,.int .u8 0,.int .u8 0,.int .u8 0,.int .u8 0,.int .u8 0,.int .u8 0,.int .u8 0,.int .u8 0,.int .u8 0,.int .u8 0,.int .u8 0,.int .u8 0,.int .u8 0,.int .u8 0,.int .u8 0,.int .u8 0,.int .u8 0,.int .u8 0,.int .u8 0,.int .u8 0,.int .u8 0,.int .u8 0,.int .u8 0,.int .u8 0,.int .u8 0,.int .u8 0,.int .u8 0,.int .u8 0,.int .u8 0,.int .u8 0,.int .u8 0,.int .u8 0,.int .u8 0,.int .u8 0,.int .u8 0,.int .u8 0,.int .u8 0,.int .u8 0,.int .u8 0,.int .u8 0,.int .u8 0,.int .u8 0,.int .u8 0,.int .u8 0,.int .u8 0,.int .u8 0,.int .u8 0]):=by kernel_rfl
@[simp] theorem size188:sizeT Tryd.prog 188=some 1:=by kernel_rfl
@[simp] theorem bytes188:bytesT Tryd.prog 188=some 8:=by kernel_rfl
@[simp] theorem agg188:aggT Tryd.prog 188=some false:=by kernel_rfl
@[simp] theorem kind188:kindT Tryd.prog 188=some .func:=by kernel_rfl
@[simp] theorem zero188:zeroT Tryd.prog 188=some (.nilFunc):=by kernel_rfl
@[simp] theorem size189:sizeT Tryd.prog 189=some 1:=by kernel_rfl
@[simp] theorem bytes189:bytesT Tryd.prog 189=some 8:=by kernel_rfl
@[simp] theorem agg189:aggT Tryd.prog 189=some false:=by kernel_rfl
@[simp] theorem kind189:kindT Tryd.prog 189=some .func:=by kernel_rfl
@[simp] theorem zero189:zeroT Tryd.prog 189=some (.nilFunc):=by kernel_rfl
@[simp] theorem size190:sizeT Tryd.prog 190=some 4:=by kernel_rfl
@[simp] theorem bytes190:bytesT Tryd.prog 190=some 40:=by kernel_rfl
@[simp] theorem agg190:aggT Tryd.prog 190=some true:=by kernel_rfl
@[simp] theorem kind190:kindT Tryd.prog 190=some .struct:=by kernel_rfl
@[simp] theorem field190_0:fieldT Tryd.prog 190 0=some (0,1,17):=by kernel_rfl
@[simp] theorem field190_1:fieldT Tryd.prog 190 1=some (1,1,17):=by kernel_rfl
@[simp] theorem field190_2:fieldT Tryd.prog 190 2=some (2,1,17):=by kernel_rfl
@[simp] theorem field190_3:fieldT Tryd.prog 190 3=some (3,1,9):=by kernel_rfl
@[simp] theorem places190:placesT Tryd.prog 190=some [(0,1),(1,1),(2,1),(3,1)]:=by kernel_rfl
@[simp] theorem zero190 : zeroT Tryd.prog 190 = some (.agg #[.pointer none, .pointer none, .pointer none, .string "".toByteArray]) := by kernel_rfl
@[simp] theorem size191:sizeT Tryd.prog 191=some 4:=by kernel_rfl
@[simp] theorem bytes191:bytesT Tryd.prog 191=some 40:=by kernel_rfl
@[simp] theorem agg191:aggT Tryd.prog 191=some true:=by kernel_rfl
@[simp] theorem kind191:kindT Tryd.prog 191=some .struct:=by kernel_rfl
@[simp] theorem field191_0:fieldT Tryd.prog 191 0=some (0,1,17):=by kernel_rfl
@[simp] theorem field191_1:fieldT Tryd.prog 191 1=some (1,1,17):=by kernel_rfl
@[simp] theorem field191_2:fieldT Tryd.prog 191 2=some (2,1,17):=by kernel_rfl
@[simp] theorem field191_3:fieldT Tryd.prog 191 3=some (3,1,9):=by kernel_rfl
@[simp] theorem places191:placesT Tryd.prog 191=some [(0,1),(1,1),(2,1),(3,1)]:=by kernel_rfl
@[simp] theorem zero191 : zeroT Tryd.prog 191 = some (.agg #[.pointer none, .pointer none, .pointer none, .string "".toByteArray]) := by kernel_rfl
@[simp] theorem size192:sizeT Tryd.prog 192=some 0:=by kernel_rfl
@[simp] theorem bytes192:bytesT Tryd.prog 192=some 0:=by kernel_rfl
@[simp] theorem agg192:aggT Tryd.prog 192=some true:=by kernel_rfl
@[simp] theorem kind192:kindT Tryd.prog 192=some .array:=by kernel_rfl
@[simp] theorem placesN192:placesT Tryd.prog 192=none:=by kernel_rfl
@[simp] theorem arr192:arrT Tryd.prog 192=some (0,16):=by kernel_rfl
@[simp] theorem zero192:zeroT Tryd.prog 192=some (.agg #[]):=by kernel_rfl
@[simp] theorem size193:sizeT Tryd.prog 193=some 0:=by kernel_rfl
@[simp] theorem bytes193:bytesT Tryd.prog 193=some 0:=by kernel_rfl
@[simp] theorem agg193:aggT Tryd.prog 193=some true:=by kernel_rfl
@[simp] theorem kind193:kindT Tryd.prog 193=some .struct:=by kernel_rfl
@[simp] theorem field193_0:fieldT Tryd.prog 193 0=some (0,0,192):=by kernel_rfl
@[simp] theorem places193:placesT Tryd.prog 193=some [(0,0)]:=by kernel_rfl
@[simp] theorem zero193:zeroT Tryd.prog 193=some (.agg #[]):=by kernel_rfl
@[simp] theorem size194:sizeT Tryd.prog 194=some 0:=by kernel_rfl
@[simp] theorem bytes194:bytesT Tryd.prog 194=some 0:=by kernel_rfl
@[simp] theorem agg194:aggT Tryd.prog 194=some true:=by kernel_rfl
@[simp] theorem kind194:kindT Tryd.prog 194=some .struct:=by kernel_rfl
@[simp] theorem field194_0:fieldT Tryd.prog 194 0=some (0,0,192):=by kernel_rfl
@[simp] theorem places194:placesT Tryd.prog 194=some [(0,0)]:=by kernel_rfl
@[simp] theorem zero194:zeroT Tryd.prog 194=some (.agg #[]):=by kernel_rfl
@[simp] theorem size195:sizeT Tryd.prog 195=some 1:=by kernel_rfl
@[simp] theorem bytes195:bytesT Tryd.prog 195=some 1:=by kernel_rfl
@[simp] theorem agg195:aggT Tryd.prog 195=some false:=by kernel_rfl
@[simp] theorem kind195:kindT Tryd.prog 195=some (.int .u8):=by kernel_rfl
@[simp] theorem zero195:zeroT Tryd.prog 195=some (.int .u8 0):=by kernel_rfl
@[simp] theorem size196:sizeT Tryd.prog 196=some 1:=by kernel_rfl
@[simp] theorem bytes196:bytesT Tryd.prog 196=some 1:=by kernel_rfl
@[simp] theorem agg196:aggT Tryd.prog 196=some false:=by kernel_rfl
@[simp] theorem kind196:kindT Tryd.prog 196=some (.int .u8):=by kernel_rfl
@[simp] theorem zero196:zeroT Tryd.prog 196=some (.int .u8 0):=by kernel_rfl
@[simp] theorem size197:sizeT Tryd.prog 197=some 1:=by kernel_rfl
@[simp] theorem bytes197:bytesT Tryd.prog 197=some 8:=by kernel_rfl
@[simp] theorem agg197:aggT Tryd.prog 197=some false:=by kernel_rfl
@[simp] theorem kind197:kindT Tryd.prog 197=some .func:=by kernel_rfl
@[simp] theorem zero197:zeroT Tryd.prog 197=some (.nilFunc):=by kernel_rfl
@[simp] theorem size198:sizeT Tryd.prog 198=some 1:=by kernel_rfl
@[simp] theorem bytes198:bytesT Tryd.prog 198=some 8:=by kernel_rfl
@[simp] theorem agg198:aggT Tryd.prog 198=some false:=by kernel_rfl
@[simp] theorem kind198:kindT Tryd.prog 198=some .ptr:=by kernel_rfl
@[simp] theorem zero198:zeroT Tryd.prog 198=some (.pointer none):=by kernel_rfl
@[simp] theorem size199:sizeT Tryd.prog 199=some 1:=by kernel_rfl
@[simp] theorem bytes199:bytesT Tryd.prog 199=some 4:=by kernel_rfl
@[simp] theorem agg199:aggT Tryd.prog 199=some false:=by kernel_rfl
@[simp] theorem kind199:kindT Tryd.prog 199=some (.int .i32):=by kernel_rfl
@[simp] theorem zero199:zeroT Tryd.prog 199=some (.int .i32 0):=by kernel_rfl
@[simp] theorem size200:sizeT Tryd.prog 200=some 1:=by kernel_rfl
@[simp] theorem bytes200:bytesT Tryd.prog 200=some 4:=by kernel_rfl
@[simp] theorem agg200:aggT Tryd.prog 200=some false:=by kernel_rfl
@[simp] theorem kind200:kindT Tryd.prog 200=some (.int .i32):=by kernel_rfl
@[simp] theorem zero200:zeroT Tryd.prog 200=some (.int .i32 0):=by kernel_rfl
@[simp] theorem size201:sizeT Tryd.prog 201=some 11:=by kernel_rfl
@[simp] theorem bytes201:bytesT Tryd.prog 201=some 48:=by kernel_rfl
@[simp] theorem agg201:aggT Tryd.prog 201=some true:=by kernel_rfl
@[simp] theorem kind201:kindT Tryd.prog 201=some .struct:=by kernel_rfl
@[simp] theorem field201_0:fieldT Tryd.prog 201 0=some (0,1,12):=by kernel_rfl
@[simp] theorem field201_1:fieldT Tryd.prog 201 1=some (1,1,12):=by kernel_rfl
@[simp] theorem field201_2:fieldT Tryd.prog 201 2=some (2,1,178):=by kernel_rfl
@[simp] theorem field201_3:fieldT Tryd.prog 201 3=some (3,1,195):=by kernel_rfl
@[simp] theorem field201_4:fieldT Tryd.prog 201 4=some (4,1,5):=by kernel_rfl
@[simp] theorem field201_5:fieldT Tryd.prog 201 5=some (5,1,5):=by kernel_rfl
@[simp] theorem field201_6:fieldT Tryd.prog 201 6=some (6,1,196):=by kernel_rfl
@[simp] theorem field201_7:fieldT Tryd.prog 201 7=some (7,1,197):=by kernel_rfl
@[simp] theorem field201_8:fieldT Tryd.prog 201 8=some (8,1,198):=by kernel_rfl
@[simp] theorem field201_9:fieldT Tryd.prog 201 9=some (9,1,199):=by kernel_rfl
@[simp] theorem field201_10:fieldT Tryd.prog 201 10=some (10,1,200):=by kernel_rfl
@[simp] theorem places201:placesT Tryd.prog 201=some [(0,1),(1,1),(2,1),(3,1),(4,1),(5,1),(6,1),(7,1),(8,1),(9,1),(10,1)]:=by kernel_rfl
@[simp] theorem zero201:zeroT Tryd.prog 201=some (.agg #[.int .u64 0,.int .u64 0,.int .u32 0,.int .u8 0,.int .u8 0,.int .u8 0,.int .u8 0,.nilFunc,.pointer none,.int .i32 0,.int .i32 0]):=by kernel_rfl
@[simp] theorem size202:sizeT Tryd.prog 202=some 11:=by kernel_rfl
@[simp] theorem bytes202:bytesT Tryd.prog 202=some 48:=by kernel_rfl
@[simp] theorem agg202:aggT Tryd.prog 202=some true:=by kernel_rfl
@[simp] theorem kind202:kindT Tryd.prog 202=some .struct:=by kernel_rfl
@[simp] theorem field202_0:fieldT Tryd.prog 202 0=some (0,1,12):=by kernel_rfl
@[simp] theorem field202_1:fieldT Tryd.prog 202 1=some (1,1,12):=by kernel_rfl
@[simp] theorem field202_2:fieldT Tryd.prog 202 2=some (2,1,178):=by kernel_rfl
@[simp] theorem field202_3:fieldT Tryd.prog 202 3=some (3,1,195):=by kernel_rfl
@[simp] theorem field202_4:fieldT Tryd.prog 202 4=some (4,1,5):=by kernel_rfl
@[simp] theorem field202_5:fieldT Tryd.prog 202 5=some (5,1,5):=by kernel_rfl
@[simp] theorem field202_6:fieldT Tryd.prog 202 6=some (6,1,196):=by kernel_rfl
@[simp] theorem field202_7:fieldT Tryd.prog 202 7=some (7,1,197):=by kernel_rfl
@[simp] theorem field202_8:fieldT Tryd.prog 202 8=some (8,1,198):=by kernel_rfl
@[simp] theorem field202_9:fieldT Tryd.prog 202 9=some (9,1,199):=by kernel_rfl
@[simp] theorem field202_10:fieldT Tryd.prog 202 10=some (10,1,200):=by kernel_rfl
@[simp] theorem places202:placesT Tryd.prog 202=some [(0,1),(1,1),(2,1),(3,1),(4,1),(5,1),(6,1),(7,1),(8,1),(9,1),(10,1)]:=by kernel_rfl
@[simp] theorem zero202:zeroT Tryd.prog 202=some (.agg #[.int .u64 0,.int .u64 0,.int .u32 0,.int .u8 0,.int .u8 0,.int .u8 0,.int .u8 0,.nilFunc,.pointer none,.int .i32 0,.int .i32 0]):=by kernel_rfl
@[simp] theorem size203:sizeT Tryd.prog 203=some 1:=by kernel_rfl
@[simp] theorem bytes203:bytesT Tryd.prog 203=some 8:=by kernel_rfl
@[simp] theorem agg203:aggT Tryd.prog 203=some false:=by kernel_rfl
@[simp] theorem kind203:kindT Tryd.prog 203=some .other:=by kernel_rfl
@[simp] theorem zero203:zeroT Tryd.prog 203=some (.pointer none):=by kernel_rfl
end Go.Vm
namespace Go.Vm
theorem toList_beq (a b:ByteArray):(a.toList == b.toList)=decide (a=b):=by
 rw[ByteArray.toList_eq,ByteArray.toList_eq]
 obtain⟨⟨x⟩⟩:=a
 obtain⟨⟨y⟩⟩:=b
 show (x == y)=_
 by_cases h:x=y
 · subst h;simp
 · simp[h]
theorem Same.then_push {X:Nat→Prop}{A B:Heap}(k:Same X A B)(o:AObj):Same X A (B.push o):=k.trans (Same.push _ _ _)
theorem Same.then_set {X:Nat→Prop}{A B:Heap}(k:Same X A B){i:Nat}(hi:i<B.n)(hx:X i∨A.n≤i)(o:AObj):Same X A (B.set i o) :=
 ⟨k.n,fun j hj hnx=>by
  rw[Heap.get_set _ _ _ hi,if_neg (fun e=>by rcases hx with h | h;exact hnx (e ▸ h);omega)]
  exact k.get j hj hnx⟩
theorem Same.then {X Y:Nat→Prop}{A B C:Heap}(k:Same X A B)(k2:Same Y B C)(h:∀ i,Y i→X i∨A.n≤i):Same X A C :=
 ⟨Nat.le_trans k.n k2.n,fun j hj hnx=>by
  rw[k2.get j (Nat.lt_of_lt_of_le hj k.n) (fun hy=>by rcases h j hy with h1 | h1;exact hnx h1;omega)]
  exact k.get j hj hnx⟩
theorem Same.then0 {X:Nat→Prop}{A B C:Heap}(k:Same X A B)(k2:Same (fun _=>False) B C):Same X A C:=k.then k2 fun _ h=>h.elim
theorem Same.none {X:Nat→Prop}{H H':Heap}(k:Same (fun _=>False) H H'):Same X H H':=k.mono fun _ h=>h.elim
end Go.Vm
namespace Go.Vm.Parse
open Go Go.Proofs
attribute [local simp] repCells_succ writeAt rd_Fr
structure Plain (E:Hooks):Prop where
 no:∀ f,Nat.beq f 5=false→Nat.beq f 10=false→E.has f=false
structure Tk where
 kind:Int
 at_:Int
 num:Int
 text:ByteArray
def Tk.cells (t:Tk):List Value:=[.int .i64 t.kind,.int .i64 t.at_,.int .i64 t.num,.string t.text]
def Tk.v (t:Tk):Value := .agg ⟨t.cells⟩
def flatT:List Tk→List Value
 | []=>[]
 | t :: ts=>t.cells++flatT ts
theorem flatT_length:∀ l:List Tk,(flatT l).length=4 * l.length
 | []=>rfl
 | t :: ts=>by simp only[flatT,List.length_append,flatT_length ts,Tk.cells,List.length_cons,List.length_nil];omega
theorem flatT_get:∀ (l:List Tk)(p:Nat)(h:p<l.length),((flatT l).drop (p * 4)).take 4=l[p].cells
 | t :: ts,0,h=>by simp[flatT,Tk.cells]
 | t :: ts, p + 1, h => by
  have e:(p+1) * 4=t.cells.length+p * 4:=by simp[Tk.cells];omega
  simp only[flatT,List.getElem_cons_succ]
  rw[e,List.drop_append,List.drop_eq_nil_of_le (by omega),List.nil_append,show t.cells.length+p * 4 - t.cells.length=p * 4 by omega]
  exact flatT_get ts p (by simpa using h)
def endTk:Tk:=⟨5,0,0,ByteArray.empty⟩
structure PS where
 p:Nat
 c:Int
 a:Int
def tok (L:List Tk)(p:Nat):Tk:=L.getD p endTk
theorem tok_lt {L:List Tk}{p:Nat}(h:p<L.length):tok L p=L[p]:=by
 unfold tok;rw[List.getD_eq_getElem?_getD,List.getElem?_eq_getElem h];rfl
theorem tok_ge {L:List Tk}{p:Nat}(h:L.length≤p):tok L p=endTk:=by
 unfold tok;rw[List.getD_eq_getElem?_getD,List.getElem?_eq_none h];rfl
def isP (L:List Tk)(s:PS)(x:ByteArray):Bool:=decide (s.c=0∧((tok L s.p).kind=3∨(tok L s.p).kind=4)∧(tok L s.p).text=x)
def takeS (L:List Tk)(s:PS)(x:ByteArray):PS:=if isP L s x=true then { s with p:=s.p+1 }else s
def faultS (L:List Tk)(s:PS)(c:Int):PS:=if s.c=0 then { s with c:=c,a:=(tok L s.p).at_ }else s
def mustS (L:List Tk)(s:PS)(x:ByteArray):PS:=if isP L s x=true then { s with p:=s.p+1 }else faultS L s 14
structure RD (H:Heap)(r lid:Nat)(L:List Tk)(s:PS):Prop where
 obj:H.get r = .row true 0 1 [.slice (some ⟨lid,0,none⟩) L.length L.length,.int .i64 s.p,.int .i64 s.c,.int .i64 s.a]
 toks:∃ tl,H.get lid = .row true tl 4 (flatT L)
 small:L.length≤100000
 place:s.p≤L.length
theorem RD.ne {H:Heap}{r lid:Nat}{L:List Tk}{s:PS}(h:RD H r lid L s):lid≠r:=fun e=>by
 obtain⟨tl,h2⟩:=h.toks
 rw[e,h.obj]at h2
 cases h2
theorem RD.lt {H:Heap}{r lid:Nat}{L:List Tk}{s:PS}(h:RD H r lid L s):r<H.n:=Heap.lt_of_get h.obj (by simp)
theorem RD.same {H H':Heap}{r lid:Nat}{L:List Tk}{s:PS}(h:RD H r lid L s)(k:Same (fun _=>False) H H'):RD H' r lid L s:=by
 obtain⟨tl,h2⟩:=h.toks
 exact⟨k.at h.obj (by simp) (fun h=>h),⟨tl,k.at h2 (by simp) (fun h=>h)⟩,h.small,h.place⟩
theorem RD.turn {H:Heap}{r lid:Nat}{L:List Tk}{s:PS}(h:RD H r lid L s)(s':PS)(hp:s'.p≤L.length) :
  RD (H.set r (.row true 0 1 [.slice (some ⟨lid,0,none⟩) L.length L.length,.int .i64 s'.p,.int .i64 s'.c,.int .i64 s'.a])) r lid L s':=by
 obtain⟨tl,h2⟩:=h.toks
 exact⟨Heap.get_set_self _ _ h.lt,⟨tl,by rw[Heap.get_set _ _ _ h.lt,if_neg h.ne];exact h2⟩,h.small,hp⟩
section
variable {E:Hooks} (hE:Plain E)
include hE
theorem c_now (args:List Value)(H:Heap):(run Tryd.prog E).call 60 args H=callB Tryd.prog E Tryd.f60 args H:=call_B Tryd.func60 rfl (by decide +kernel) (hE.no _ rfl rfl) args H
theorem c_bad (args:List Value)(H:Heap):(run Tryd.prog E).call 50 args H=callB Tryd.prog E Tryd.f50 args H:=call_B Tryd.func50 rfl (by decide +kernel) (hE.no _ rfl rfl) args H
theorem c_fault (args:List Value)(H:Heap):(run Tryd.prog E).call 61 args H=callB Tryd.prog E Tryd.f61 args H:=call_B Tryd.func61 rfl (by decide +kernel) (hE.no _ rfl rfl) args H
theorem c_is (args:List Value)(H:Heap):(run Tryd.prog E).call 83 args H=callB Tryd.prog E Tryd.f83 args H:=call_B Tryd.func83 rfl (by decide +kernel) (hE.no _ rfl rfl) args H
theorem c_take (args:List Value)(H:Heap):(run Tryd.prog E).call 56 args H=callB Tryd.prog E Tryd.f56 args H:=call_B Tryd.func56 rfl (by decide +kernel) (hE.no _ rfl rfl) args H
theorem c_must (args:List Value)(H:Heap):(run Tryd.prog E).call 53 args H=callB Tryd.prog E Tryd.f53 args H:=call_B Tryd.func53 rfl (by decide +kernel) (hE.no _ rfl rfl) args H
theorem c_name (args:List Value)(H:Heap):(run Tryd.prog E).call 54 args H=callB Tryd.prog E Tryd.f54 args H:=call_B Tryd.func54 rfl (by decide +kernel) (hE.no _ rfl rfl) args H
theorem c_num (args:List Value)(H:Heap):(run Tryd.prog E).call 86 args H=callB Tryd.prog E Tryd.f86 args H:=call_B Tryd.func86 rfl (by decide +kernel) (hE.no _ rfl rfl) args H
theorem c_opens (args:List Value)(H:Heap):(run Tryd.prog E).call 84 args H=callB Tryd.prog E Tryd.f84 args H:=call_B Tryd.func84 rfl (by decide +kernel) (hE.no _ rfl rfl) args H
theorem c_op (args:List Value)(H:Heap):(run Tryd.prog E).call 85 args H=callB Tryd.prog E Tryd.f85 args H:=call_B Tryd.func85 rfl (by decide +kernel) (hE.no _ rfl rfl) args H
theorem c_row (args:List Value)(H:Heap):(run Tryd.prog E).call 49 args H=callB Tryd.prog E Tryd.f49 args H:=call_B Tryd.func49 rfl (by decide +kernel) (hE.no _ rfl rfl) args H
theorem c_fact (args:List Value)(H:Heap):(run Tryd.prog E).call 82 args H=callB Tryd.prog E Tryd.f82 args H:=call_B Tryd.func82 rfl (by decide +kernel) (hE.no _ rfl rfl) args H
theorem c_index (args:List Value)(H:Heap):(run Tryd.prog E).call 97 args H=callB Tryd.prog E Tryd.f97 args H:=call_B Tryd.func97 rfl (by decide +kernel) (hE.no _ rfl rfl) args H
theorem c_items (args:List Value)(H:Heap):(run Tryd.prog E).call 58 args H=callB Tryd.prog E Tryd.f58 args H:=call_B Tryd.func58 rfl (by decide +kernel) (hE.no _ rfl rfl) args H
theorem c_All (args:List Value)(H:Heap):(run Tryd.prog E).call 6 args H=callB Tryd.prog E Tryd.f6 args H:=call_B Tryd.func6 rfl (by decide +kernel) (hE.no _ rfl rfl) args H
theorem c_letter (args:List Value)(H:Heap):(run Tryd.prog E).call 14 args H=callB Tryd.prog E Tryd.f14 args H:=call_B Tryd.func14 rfl (by decide +kernel) (hE.no _ rfl rfl) args H
theorem c_digit (args:List Value)(H:Heap):(run Tryd.prog E).call 15 args H=callB Tryd.prog E Tryd.f15 args H:=call_B Tryd.func15 rfl (by decide +kernel) (hE.no _ rfl rfl) args H
theorem c_number (args:List Value)(H:Heap):(run Tryd.prog E).call 17 args H=callB Tryd.prog E Tryd.f17 args H:=call_B Tryd.func17 rfl (by decide +kernel) (hE.no _ rfl rfl) args H
theorem c_sign (args:List Value)(H:Heap):(run Tryd.prog E).call 18 args H=callB Tryd.prog E Tryd.f18 args H:=call_B Tryd.func18 rfl (by decide +kernel) (hE.no _ rfl rfl) args H
theorem c_Word (args:List Value)(H:Heap):(run Tryd.prog E).call 16 args H=callB Tryd.prog E Tryd.f16 args H:=call_B Tryd.func16 rfl (by decide +kernel) (hE.no _ rfl rfl) args H
end
end Go.Vm.Parse
namespace Go.Vm.Parse
open Go Go.Proofs
attribute [local simp] repCells_succ writeAt rd_Fr toList_beq
theorem q_now0:quiet Tryd.prog (drawN Tryd.f60 0)=true:=by decide +kernel
theorem q_num0:quiet Tryd.prog (drawN Tryd.f86 0)=true:=by decide +kernel
theorem q_now1:quiet Tryd.prog (drawN Tryd.f60 1)=true:=by decide +kernel
theorem RD.get_push {H:Heap}{r lid:Nat}{L:List Tk}{s:PS}(h:RD H r lid L s)(o:AObj):(H.push o).get r = .row true 0 1 [.slice (some ⟨lid,0,none⟩) L.length L.length,.int .i64 s.p,.int .i64 s.c,.int .i64 s.a]:=by
 rw[Heap.get_push,if_neg (Nat.ne_of_lt h.lt)];exact h.obj
theorem tok_ge_kind {L:List Tk}{p:Nat}(h:(tok L p).kind≠5):p<L.length:=by
 rcases Nat.lt_or_ge p L.length with h1 | h1
 · exact h1
 · rw[tok_ge h1]at h;exact absurd rfl h
section
variable {E:Hooks} (hE:Plain E) {H:Heap} {r lid:Nat} {L:List Tk} {s:PS} (h:RD H r lid L s)
include hE h
theorem now_run:∃ H',(run Tryd.prog E).call 60 [.pointer (some ⟨r,0,none⟩)] H=some (.val (tok L s.p).v,H')∧Same (fun _=>False) H H':=by
 obtain⟨tl,ht⟩:=h.toks
 have hsm:=h.small
 have hpl:=h.place
 have hl:=Heap.lt_of_get ht (by simp)
 have g1:=h.get_push
 have g2:∀ o,(H.push o).get lid = .row true tl 4 (flatT L):=fun o=>by
  rw[Heap.get_push,if_neg (by omega)];exact ht
 have key:Gives ((run Tryd.prog E).call 60 [.pointer (some ⟨r,0,none⟩)] H) fun o H'=>o = .val (tok L s.p).v∧Same (fun _=>False) H H':=by
  rw[c_now hE,callB,bodyOf]
  simp[Tryd.f60]
  refine region_quiet (by exact q_now0) ?_
  rcases Nat.lt_or_ge s.p L.length with hp | hp
  · simp[g1,show ¬(s.p:Int)<0 by omega,show ¬L.length≤s.p by omega]
    refine region_quiet (by exact q_now1) ?_
    have hlen:=flatT_length L
    have hget:=flatT_get L s.p hp
    simp[g1,g2,hp,hlen,hget,show s.p * 4+4≤4 * L.length by omega,tok_lt hp,Tk.v,Tk.cells,Heap.get_push_self]
    exact Same.push _ _ _
  · simp[g1,show ¬(s.p:Int)<0 by omega,hp,tok_ge hp,endTk,Tk.v,Tk.cells,Heap.get_push_self]
    exact Same.push _ _ _
 obtain⟨o,H',e,rfl,k⟩:=key
 exact⟨H',e,k⟩
theorem bad_run:(run Tryd.prog E).call 50 [.pointer (some ⟨r,0,none⟩)] H=some (.val (.bool (!decide (s.c=0))),H):=by
 have hobj:=h.obj
 rw[c_bad hE,callB,bodyOf]
 simp[Tryd.f50,hobj]
theorem is_run (x:ByteArray):∃ H',(run Tryd.prog E).call 83 [.pointer (some ⟨r,0,none⟩),.string x] H=some (.val (.bool (isP L s x)),H')∧Same (fun _=>False) H H':=by
 obtain⟨H1,e1,k1⟩:=now_run hE h
 have h2:=(h.same k1).same (Same.push _ _ (.row true 0 1 (tok L s.p).cells))
 have e2:=bad_run hE h2
 refine⟨H1.push (.row true 0 1 (tok L s.p).cells),?_,k1.then_push _⟩
 have key:Gives ((run Tryd.prog E).call 83 [.pointer (some ⟨r,0,none⟩),.string x] H) fun o H'=>o = .val (.bool (isP L s x))∧H'=H1.push (.row true 0 1 (tok L s.p).cells):=by
  rw[c_is hE,callB,bodyOf]
  generalize htk:tok L s.p=tk at *
  unfold isP
  rw[htk]
  simp only[Tk.v,Tk.cells]at e1 e2 ⊢
  simp[Tryd.f83,e1,Heap.get_push_self,e2]
  by_cases hc:s.c=0
  · by_cases hk:tk.kind=3
    · simp[hc,hk,Heap.get_push_self]
    · by_cases hk4:tk.kind=4
      · simp[hc,hk,hk4,Heap.get_push_self]
      · simp[hc,hk,hk4,Heap.get_push_self]
  · simp[hc,Heap.get_push_self]
 obtain⟨o,H',e,rfl,rfl⟩:=key
 exact e
theorem take_run (x:ByteArray):∃ H',(run Tryd.prog E).call 56 [.pointer (some ⟨r,0,none⟩),.string x] H=some (.val (.bool (isP L s x)),H')∧Same (·=r) H H'∧RD H' r lid L (takeS L s x):=by
 obtain⟨H1,e1,k1⟩:=is_run hE h x
 have h1:=h.same k1
 have hobj:=h1.obj
 have hsm:=h.small
 by_cases hi:isP L s x=true
 · have hlt:s.p<L.length:=tok_ge_kind (by
    unfold isP at hi
    simp only[decide_eq_true_eq]at hi
    rcases hi.2.1 with h | h<;>omega)
   have h2:=h1.turn { s with p:=s.p+1 } (by show s.p+1≤_;omega)
   have key:Gives ((run Tryd.prog E).call 56 [.pointer (some ⟨r,0,none⟩),.string x] H) fun o H'=>o = .val (.bool (isP L s x))∧H'=H1.set r (.row true 0 1 [.slice (some ⟨lid,0,none⟩) L.length L.length,.int .i64 ((s.p+1:Nat):Int),.int .i64 s.c,.int .i64 s.a]):=by
    rw[c_take hE,callB,bodyOf]
    rw[hi]at e1 ⊢
    have hw:=wrap64 ((s.p:Int)+1) (by omega) (by omega)
    simp[Tryd.f56,e1,hobj,hw]
   obtain⟨o,H',e,rfl,rfl⟩:=key
   exact⟨_,e,(Same.none (X:=(·=r)) k1).then_set h1.lt (.inl rfl) _,by unfold takeS;rw[if_pos hi];exact h2⟩
 · have hf:isP L s x=false:=by simpa using hi
   refine⟨H1,?_,Same.none k1,by unfold takeS;rw[if_neg hi];exact h1⟩
   have key:Gives ((run Tryd.prog E).call 56 [.pointer (some ⟨r,0,none⟩),.string x] H) fun o H'=>o = .val (.bool (isP L s x))∧H'=H1:=by
    rw[c_take hE,callB,bodyOf]
    rw[hf]at e1 ⊢
    simp[Tryd.f56,e1]
   obtain⟨o,H',e,rfl,rfl⟩:=key
   exact e
theorem fault_run (c:Int):∃ H',(run Tryd.prog E).call 61 [.pointer (some ⟨r,0,none⟩),.int .i64 c] H=some (.val (.tuple #[]),H')∧Same (·=r) H H'∧RD H' r lid L (faultS L s c):=by
 have e0:=bad_run hE h
 by_cases hc:s.c=0
 · obtain⟨H1,e1,k1⟩:=now_run hE h
   have h1:=h.same k1
   have hobj:=h1.obj
   have h2:=h1.turn { s with c:=c,a:=(tok L s.p).at_ } h.place
   have key:Gives ((run Tryd.prog E).call 61 [.pointer (some ⟨r,0,none⟩),.int .i64 c] H) fun o H'=>o = .val (.tuple #[])∧H'=H1.set r (.row true 0 1 [.slice (some ⟨lid,0,none⟩) L.length L.length,.int .i64 s.p,.int .i64 c,.int .i64 (tok L s.p).at_]):=by
    rw[c_fault hE,callB,bodyOf]
    simp only[Tk.v,Tk.cells]at e1
    simp[Tryd.f61,e0,e1,hc,hobj]
   obtain⟨o,H',e,rfl,rfl⟩:=key
   exact⟨_,e,(Same.none (X:=(·=r)) k1).then_set h1.lt (.inl rfl) _,by unfold faultS;rw[if_pos hc];exact h2⟩
 · refine⟨H,?_,Same.refl _ _,by unfold faultS;rw[if_neg hc];exact h⟩
   have key:Gives ((run Tryd.prog E).call 61 [.pointer (some ⟨r,0,none⟩),.int .i64 c] H) fun o H'=>o = .val (.tuple #[])∧H'=H:=by
    rw[c_fault hE,callB,bodyOf]
    simp[Tryd.f61,e0,hc]
   obtain⟨o,H',e,rfl,rfl⟩:=key
   exact e
theorem must_run (x:ByteArray):∃ H',(run Tryd.prog E).call 53 [.pointer (some ⟨r,0,none⟩),.string x] H=some (.val (.tuple #[]),H')∧Same (·=r) H H'∧RD H' r lid L (mustS L s x):=by
 obtain⟨H1,e1,k1,h1⟩:=take_run hE h x
 by_cases hi:isP L s x=true
 · refine⟨H1,?_,k1,by unfold mustS;unfold takeS at h1;rw[if_pos hi]at h1 ⊢;exact h1⟩
   have key:Gives ((run Tryd.prog E).call 53 [.pointer (some ⟨r,0,none⟩),.string x] H) fun o H'=>o = .val (.tuple #[])∧H'=H1:=by
    rw[c_must hE,callB,bodyOf]
    rw[hi]at e1
    simp[Tryd.f53,e1]
   obtain⟨o,H',e,rfl,rfl⟩:=key
   exact e
 · have hf:isP L s x=false:=by simpa using hi
   have h1':RD H1 r lid L s:=by unfold takeS at h1;rw[if_neg hi]at h1;exact h1
   obtain⟨H2,e2,k2,h2⟩:=fault_run hE h1' 14
   refine⟨H2,?_,k1.trans k2,by unfold mustS;rw[if_neg hi];exact h2⟩
   have key:Gives ((run Tryd.prog E).call 53 [.pointer (some ⟨r,0,none⟩),.string x] H) fun o H'=>o = .val (.tuple #[])∧H'=H2:=by
    rw[c_must hE,callB,bodyOf]
    rw[hf]at e1
    simp[Tryd.f53,e1,e2]
   obtain⟨o,H',e,rfl,rfl⟩:=key
   exact e
end
structure Idn where
 at_:Int
 name:ByteArray
def Idn.cells (x:Idn):List Value:=[.int .i64 x.at_,.string x.name]
def nameP (L:List Tk)(s:PS):Idn:=if s.c=0∧(tok L s.p).kind=1 then ⟨(tok L s.p).at_,(tok L s.p).text⟩else ⟨0,ByteArray.empty⟩
def nameS (L:List Tk)(s:PS):PS:=if s.c=0∧(tok L s.p).kind=1 then { s with p:=s.p+1 }else faultS L s 14
def numP (L:List Tk)(s:PS):Int × Int:=if s.c=0∧(tok L s.p).kind=2 then ((tok L s.p).num,(tok L s.p).at_)else (0,0)
def numS (L:List Tk)(s:PS):PS:=if s.c=0∧(tok L s.p).kind=2 then { s with p:=s.p+1 }else faultS L s 14
def opensS (L:List Tk)(s:PS)(lv:Int):PS:=if 24<lv then faultS L s 15 else s
theorem RD.set_new {H:Heap}{r lid:Nat}{L:List Tk}{s:PS}(h:RD H r lid L s){i:Nat}(hi:i<H.n)(o:AObj)(hg:∀ tl es cs,H.get i = .row true tl es cs→es=1∧cs.length=2):RD (H.set i o) r lid L s:=by
 obtain⟨tl,ht⟩:=h.toks
 refine⟨?_,⟨tl,?_⟩,h.small,h.place⟩
 · rw[Heap.get_set _ _ _ hi,if_neg (fun e=>by subst e;have:=(hg _ _ _ h.obj).2;simp at this)];exact h.obj
 · rw[Heap.get_set _ _ _ hi,if_neg (fun e=>by subst e;have:=(hg _ _ _ ht).1;omega)];exact ht
section
variable {E:Hooks} (hE:Plain E) {H:Heap} {r lid:Nat} {L:List Tk} {s:PS} (h:RD H r lid L s)
include hE h
theorem name_run:∃ H',(run Tryd.prog E).call 54 [.pointer (some ⟨r,0,none⟩)] H=some (.val (.agg ⟨(nameP L s).cells⟩),H')∧Same (·=r) H H'∧RD H' r lid L (nameS L s):=by
 have h0:=h.same (Same.push _ _ (.row true 0 1 [.int .i64 0,.string ByteArray.empty]))
 obtain⟨H1,e1,k1⟩:=now_run hE h0
 have g1:H1.get H.n = .row true 0 1 [.int .i64 0,.string ByteArray.empty]:=k1.at (Heap.get_push_self _ _) (by simp) (fun h=>h)
 have hn1:H.n<H1.n:=by have:=k1.n;simp at this;omega
 have h2:=(h0.same k1).same (Same.push _ _ (.row true 0 1 (tok L s.p).cells))
 have e2:=bad_run hE h2
 have g2:(H1.push (.row true 0 1 (tok L s.p).cells)).get H.n = .row true 0 1 [.int .i64 0,.string ByteArray.empty]:=by rw[Heap.get_push,if_neg (by omega)];exact g1
 have g3:(H1.push (.row true 0 1 (tok L s.p).cells)).get H1.n = .row true 0 1 (tok L s.p).cells:=Heap.get_push_self _ _
 have kk:Same (·=r) H (H1.push (.row true 0 1 (tok L s.p).cells)):=(Same.none ((Same.push _ _ _).trans (k1.then_push _)))
 have hn2:(H1.push (.row true 0 1 (tok L s.p).cells)).n=H1.n+1:=rfl
 have hr1:r<H.n:=h.lt
 have hobj:=h2.obj
 have hsm:=h.small
 suffices key:Gives ((run Tryd.prog E).call 54 [.pointer (some ⟨r,0,none⟩)] H) fun o H'=>o = .val (.agg ⟨(nameP L s).cells⟩)∧Same (·=r) H H'∧RD H' r lid L (nameS L s) by
  obtain⟨o,H',e,rfl,k⟩:=key
  exact⟨H',e,k⟩
 rw[c_name hE,callB,bodyOf]
 by_cases hc:s.c=0∧(tok L s.p).kind=1
 · have hlt:s.p<L.length:=tok_ge_kind (by omega)
   have h3:=h2.turn { s with p:=s.p+1 } (by show s.p+1≤_;omega)
   have hnp:nameP L s=⟨(tok L s.p).at_,(tok L s.p).text⟩:=by unfold nameP;rw[if_pos hc]
   have hns:nameS L s={ s with p:=s.p+1 }:=by unfold nameS;rw[if_pos hc]
   rw[hnp,hns]
   generalize htk:tok L s.p=tk at *
   have hw:=wrap64 ((s.p:Int)+1) (by omega) (by omega)
   have hk1:decide (tk.kind=1)=true:=by simpa using hc.2
   simp only[Tk.v,Tk.cells,Idn.cells]at *
   simp[Tryd.f54,e1]
   generalize hH2:H1.push (.row true 0 1 [.int .i64 tk.kind,.int .i64 tk.at_,.int .i64 tk.num,.string tk.text])=H2 at *
   have gs:∀ o j,(H2.set r o).get j=if j=r then o else H2.get j:=fun o j=>Heap.get_set H2 r o (by omega) j
   have gs2:∀ o o' j,((H2.set r o).set H.n o').get j=if j=H.n then o' else (H2.set r o).get j:=fun o o' j=>Heap.get_set _ H.n o' (by simp;omega) j
   simp[e2,g3,hc.1,hk1,hobj,hw,gs,gs2,show ¬H1.n=r by omega,show ¬H.n=r by omega,g2]
   refine⟨(kk.then_set (by omega) (.inl rfl) _).then_set (by simp;omega) (.inr (Nat.le_refl _)) _,?_⟩
   rw[hc.1]at h3
   exact h3.set_new (by simp;omega) _ fun tl es cs hg=>by
    rw[gs,if_neg (by omega),g2]at hg
    cases hg;exact⟨rfl,rfl⟩
 · have hnp:nameP L s=⟨0,ByteArray.empty⟩:=by unfold nameP;rw[if_neg hc]
   have hns:nameS L s=faultS L s 14:=by unfold nameS;rw[if_neg hc]
   obtain⟨H3,e3,k3,h3⟩:=fault_run hE h2 14
   have g4:H3.get H.n = .row true 0 1 [.int .i64 0,.string ByteArray.empty]:=k3.at g2 (by simp) (by omega)
   have hn3:=k3.n
   rw[hnp,hns]
   generalize htk:tok L s.p=tk at *
   simp only[Tk.v,Tk.cells,Idn.cells]at *
   simp[Tryd.f54,e1]
   generalize hH2:H1.push (.row true 0 1 [.int .i64 tk.kind,.int .i64 tk.at_,.int .i64 tk.num,.string tk.text])=H2 at *
   have gs:∀ o j,(H3.set H.n o).get j=if j=H.n then o else H3.get j:=fun o j=>Heap.get_set H3 H.n o (by omega) j
   have fin:Same (·=r) H (H3.set H.n (.row true 0 1 [.int .i64 0,.string ByteArray.empty]))∧RD (H3.set H.n (.row true 0 1 [.int .i64 0,.string ByteArray.empty])) r lid L (faultS L s 14) :=
    ⟨(kk.trans k3).then_set (by omega) (.inr (Nat.le_refl _)) _, h3.set_new (by omega) _ fun tl es cs hg => by
      rw[g4]at hg
      cases hg;exact⟨rfl,rfl⟩⟩
   by_cases h0:s.c=0
   · have hk:¬tk.kind=1:=fun e=>hc ⟨h0,e⟩
     simp[e2,g3,h0,hk,e3,g4,gs]
     exact fin
   · simp[e2,g3,h0,e3,g4,gs]
     exact fin
theorem num_run:∃ H',(run Tryd.prog E).call 86 [.pointer (some ⟨r,0,none⟩)] H=some (.val (.tuple #[.int .i64 (numP L s).1,.int .i64 (numP L s).2]),H')∧Same (·=r) H H'∧RD H' r lid L (numS L s):=by
 obtain⟨H1,e1,k1⟩:=now_run hE h
 have h2:=(h.same k1).same (Same.push _ _ (.row true 0 1 (tok L s.p).cells))
 have e2:=bad_run hE h2
 have g3:(H1.push (.row true 0 1 (tok L s.p).cells)).get H1.n = .row true 0 1 (tok L s.p).cells:=Heap.get_push_self _ _
 have kk:Same (·=r) H (H1.push (.row true 0 1 (tok L s.p).cells)):=Same.none (k1.then_push _)
 have hn2:(H1.push (.row true 0 1 (tok L s.p).cells)).n=H1.n+1:=rfl
 have hr1:r<H.n:=h.lt
 have hn1:=k1.n
 have hobj:=h2.obj
 have hsm:=h.small
 suffices key:Gives ((run Tryd.prog E).call 86 [.pointer (some ⟨r,0,none⟩)] H) fun o H'=>o = .val (.tuple #[.int .i64 (numP L s).1,.int .i64 (numP L s).2])∧Same (·=r) H H'∧RD H' r lid L (numS L s) by
  obtain⟨o,H',e,rfl,k⟩:=key
  exact⟨H',e,k⟩
 rw[c_num hE,callB,bodyOf]
 by_cases hc:s.c=0∧(tok L s.p).kind=2
 · have hlt:s.p<L.length:=tok_ge_kind (by omega)
   have h3:=h2.turn { s with p:=s.p+1 } (by show s.p+1≤_;omega)
   have hnp:numP L s=((tok L s.p).num,(tok L s.p).at_):=by unfold numP;rw[if_pos hc]
   have hns:numS L s={ s with p:=s.p+1 }:=by unfold numS;rw[if_pos hc]
   rw[hnp,hns]
   generalize htk:tok L s.p=tk at *
   have hw:=wrap64 ((s.p:Int)+1) (by omega) (by omega)
   have hk1:decide (tk.kind=2)=true:=by simpa using hc.2
   simp only[Tk.v,Tk.cells]at *
   simp[Tryd.f86,e1]
   generalize hH2:H1.push (.row true 0 1 [.int .i64 tk.kind,.int .i64 tk.at_,.int .i64 tk.num,.string tk.text])=H2 at *
   have gs:∀ o j,(H2.set r o).get j=if j=r then o else H2.get j:=fun o j=>Heap.get_set H2 r o (by omega) j
   simp[e2,g3,hc.1,hk1,hobj,hw,gs,show ¬H1.n=r by omega]
   refine region_quiet (by exact q_num0) ?_
   simp[g3,gs,show ¬H1.n=r by omega]
   rw[hc.1]at h3
   exact⟨kk.then_set (by omega) (.inl rfl) _,h3⟩
 · have hnp:numP L s=(0,0):=by unfold numP;rw[if_neg hc]
   have hns:numS L s=faultS L s 14:=by unfold numS;rw[if_neg hc]
   obtain⟨H3,e3,k3,h3⟩:=fault_run hE h2 14
   rw[hnp,hns]
   generalize htk:tok L s.p=tk at *
   simp only[Tk.v,Tk.cells]at *
   simp[Tryd.f86,e1]
   generalize hH2:H1.push (.row true 0 1 [.int .i64 tk.kind,.int .i64 tk.at_,.int .i64 tk.num,.string tk.text])=H2 at *
   by_cases h0:s.c=0
   · have hk:¬tk.kind=2:=fun e=>hc ⟨h0,e⟩
     simp[e2,g3,h0,hk,e3]
     exact⟨kk.trans k3,h3⟩
   · simp[e2,g3,h0,e3]
     exact⟨kk.trans k3,h3⟩
theorem opens_run (lv:Int):∃ H',(run Tryd.prog E).call 84 [.pointer (some ⟨r,0,none⟩),.int .i64 lv] H=some (.val (.bool (decide ((opensS L s lv).c=0))),H')∧Same (·=r) H H'∧RD H' r lid L (opensS L s lv):=by
 suffices key:Gives ((run Tryd.prog E).call 84 [.pointer (some ⟨r,0,none⟩),.int .i64 lv] H) fun o H'=>o = .val (.bool (decide ((opensS L s lv).c=0)))∧Same (·=r) H H'∧RD H' r lid L (opensS L s lv) by
  obtain⟨o,H',e,rfl,k⟩:=key
  exact⟨H',e,k⟩
 rw[c_opens hE,callB,bodyOf]
 by_cases hc:24<lv
 · obtain⟨H3,e3,k3,h3⟩:=fault_run hE h 15
   have e4:=bad_run hE h3
   have hns:opensS L s lv=faultS L s 15:=by unfold opensS;rw[if_pos hc]
   rw[hns]
   simp[Tryd.f84,hc,e3,e4]
   exact⟨k3,h3⟩
 · have e4:=bad_run hE h
   have hns:opensS L s lv=s:=by unfold opensS;rw[if_neg hc]
   rw[hns]
   simp[Tryd.f84,hc,e4]
   exact⟨Same.refl _ _,h⟩
end
end Go.Vm.Parse
namespace Go.Vm.Parse
open Go Go.Proofs
attribute [local simp] repCells_succ writeAt rd_Fr toList_beq gpe gpn spe gse gsn ne_r0 ne_l0 le_s0 ne_r1 ne_l1 lt_s1 le_s1 ne_r2 ne_l2 lt_s2 le_s2 ne_r3 ne_l3 lt_s3 le_s3 ne_r4 ne_l4 lt_s4 le_s4 ne_r5 ne_l5 lt_s5 le_s5 ne_r6 ne_l6 lt_s6 le_s6 ne_r7 ne_l7 lt_s7 le_s7
def opsL:List (ByteArray × Int × Int):=[(⟨#[111,114]⟩,1,22),(⟨#[97,110,100]⟩,2,21),(⟨#[61]⟩,4,15),(⟨#[60,62]⟩,4,16),(⟨#[60]⟩,4,17),(⟨#[60,61]⟩,4,18),(⟨#[62]⟩,4,19),(⟨#[62,61]⟩,4,20),(⟨#[43]⟩,5,9),(⟨#[45]⟩,5,10),(⟨#[42]⟩,6,11),(⟨#[47]⟩,6,12),(⟨#[37]⟩,6,13)]
def opFrom (k:Int)(x:ByteArray):List (ByteArray × Int × Int)→Int
 | []=>0
 | (t,r,o) :: l=>if t=x∧r=k then o else opFrom k x l
def opP (L:List Tk)(s:PS)(k:Int):Int:=if s.c=0∧((tok L s.p).kind=4∨(tok L s.p).kind=3)then opFrom k (tok L s.p).text opsL else 0
theorem opFrom_drop (k:Int)(x:ByteArray){i:Nat}(h:i<opsL.length):opFrom k x (opsL.drop i)=if opsL[i].1=x∧opsL[i].2.1=k then opsL[i].2.2 else opFrom k x (opsL.drop (i+1)):=by
 rw[List.drop_eq_getElem_cons h];rfl
theorem b_signs:exBuild Tryd.prog 159 [(0,Value.string { data := #[111,114] }),(1,Value.string { data := #[97,110,100] }),(2,Value.string { data := #[61] }),(3,Value.string { data := #[60,62] }),(4,Value.string { data := #[60] }),(5,Value.string { data := #[60,61] }),(6,Value.string { data := #[62] }),(7,Value.string { data := #[62,61] }),(8,Value.string { data := #[43] }),(9,Value.string { data := #[45] }),(10,Value.string { data := #[42] }),(11,Value.string { data := #[47] }),(12,Value.string { data := #[37] })]=some (.agg ⟨opsL.map fun x => .string x.1⟩):=by kernel_rfl
theorem b_rows:exBuild Tryd.prog 160 [(0,Value.int .i64 1),(1,Value.int .i64 2),(2,Value.int .i64 4),(3,Value.int .i64 4),(4,Value.int .i64 4),(5,Value.int .i64 4),(6,Value.int .i64 4),(7,Value.int .i64 4),(8,Value.int .i64 5),(9,Value.int .i64 5),(10,Value.int .i64 6),(11,Value.int .i64 6),(12,Value.int .i64 6)]=some (.agg ⟨opsL.map fun x => .int .i64 x.2.1⟩):=by kernel_rfl
theorem b_ops:exBuild Tryd.prog 160 [(0,Value.int .i64 22),(1,Value.int .i64 21),(2,Value.int .i64 15),(3,Value.int .i64 16),(4,Value.int .i64 17),(5,Value.int .i64 18),(6,Value.int .i64 19),(7,Value.int .i64 20),(8,Value.int .i64 9),(9,Value.int .i64 10),(10,Value.int .i64 11),(11,Value.int .i64 12),(12,Value.int .i64 13)]=some (.agg ⟨opsL.map fun x => .int .i64 x.2.2⟩):=by kernel_rfl
theorem q_op0:quiet Tryd.prog (drawN Tryd.f85 0)=true:=by decide +kernel
section
variable {E:Hooks} (hE:Plain E) {H:Heap} {r lid:Nat} {L:List Tk} {s:PS} (h:RD H r lid L s)
include hE h
theorem op_run (k:Int):∃ H',(run Tryd.prog E).call 85 [.pointer (some ⟨r,0,none⟩),.int .i64 k] H=some (.val (.int .i64 (opP L s k)),H')∧Same (fun _=>False) H H':=by
 obtain⟨H1,e1,k1⟩:=now_run hE h
 have h2:=(h.same k1).same (Same.push _ _ (.row true 0 1 (tok L s.p).cells))
 have e2:=bad_run hE h2
 have g3:(H1.push (.row true 0 1 (tok L s.p).cells)).get H1.n = .row true 0 1 (tok L s.p).cells:=Heap.get_push_self _ _
 have kk:Same (fun _=>False) H (H1.push (.row true 0 1 (tok L s.p).cells)):=k1.then_push _
 have hn1:=k1.n
 have hn2:(H1.push (.row true 0 1 (tok L s.p).cells)).n=H1.n+1:=rfl
 suffices key:Gives ((run Tryd.prog E).call 85 [.pointer (some ⟨r,0,none⟩),.int .i64 k] H) fun o H'=>o = .val (.int .i64 (opP L s k))∧Same (fun _=>False) H H' by
  obtain⟨o,H',e,rfl,k⟩:=key
  exact⟨H',e,k⟩
 rw[c_op hE,callB,bodyOf]
 by_cases hc:s.c=0∧((tok L s.p).kind=4∨(tok L s.p).kind=3)
 · have hop:opP L s k=opFrom k (tok L s.p).text opsL:=by unfold opP;rw[if_pos hc]
   rw[hop]
   generalize htk:tok L s.p=tk at *
   simp only[Tk.v,Tk.cells]at *
   simp[Tryd.f85,e1]
   generalize hH2:H1.push (.row true 0 1 [.int .i64 tk.kind,.int .i64 tk.at_,.int .i64 tk.num,.string tk.text])=H2 at *
   have hlen:opsL.length=13:=rfl
   have hlt12:H1.n<H2.n:=by omega
   have hk1:(decide (tk.kind=4)=true∧decide (tk.kind=3)=false)∨(decide (tk.kind=4)=false∧decide (tk.kind=3)=true):=by
    rcases hc.2 with h | h<;>simp[h]
   rcases hk1 with⟨h4,h3⟩ | ⟨h4,h3⟩
   all_goals
    simp[-build_eq,b_signs,b_rows,b_ops,e2,g3,hc.1,h4,h3,hlen]
    refine loop_wp (fun m t H'=>∃ i:Nat,i+m=13∧rd t 9 = .int .i64 i∧H'=(((H2.push (.row true 0 1 (opsL.map fun x => .string x.1))).push (.row true 0 1 (opsL.map fun x => .int .i64 x.2.1))).push (.row true 0 1 (opsL.map fun x => .int .i64 x.2.2)))∧opFrom k tk.text opsL=opFrom k tk.text (opsL.drop i)) 13 ?_ ?_
    · exact⟨0,rfl,by simp,rfl,rfl⟩
    rintro m t H' hk ⟨i,hi,g9,rfl,ho⟩
    have ht:t.length=47:=hk.1.trans (by simp[len_Bs])
    have hh:=hk.all [0,1,5,6,7,8] (by decide +kernel)
    simp at hh
    obtain⟨a0,a1,a5,a6,a7,a8⟩:=hh
    have fin:Same (fun _=>False) H (((H2.push (.row true 0 1 (opsL.map fun x => .string x.1))).push (.row true 0 1 (opsL.map fun x => .int .i64 x.2.1))).push (.row true 0 1 (opsL.map fun x => .int .i64 x.2.2))):=((kk.then_push _).then_push _).then_push _
    by_cases hm:m=0
    · subst hm
      obtain rfl:i=13:=by omega
      have h0:opFrom k tk.text (opsL.drop 13)=0:=rfl
      rw[ho,h0]
      simp[ht,g9]
      exact fin
    · have hi13:i<opsL.length:=by omega
      have hi:i<13:=by omega
      have hop2:=opFrom_drop k tk.text hi13
      rw[ho]
      have hw:=wrap64 ((i:Int)+1) (by omega) (by omega)
      have hq:=List.getElem?_eq_getElem hi13
      generalize opsL[i]=q at hop2 hq
      obtain⟨q1,q2,q3⟩:=q
      simp only[]at hop2
      rw[hop2]
      simp[ht,g9,show (i:Int)<13 by omega]
      refine region_quiet (by exact q_op0) ?_
      by_cases c1:q1=tk.text
      · by_cases c2:q2=k
        · simp[ht,g9,a0,a1,a5,a6,a7,a8,hi,hq,c1,c2,hlt12,g3]
          exact fin
        · simp[ht,g9,a0,a1,a5,a6,a7,a8,hi,hq,c1,c2,hlt12,g3,hw]
          exact⟨m - 1,by omega,i+1,by omega,by simp,rfl⟩
      · simp[ht,g9,a0,a1,a5,a6,a7,a8,hi,hq,c1,hlt12,g3,hw]
        exact⟨m - 1,by omega,i+1,by omega,by simp,rfl⟩
 · have hop:opP L s k=0:=by unfold opP;rw[if_neg hc]
   rw[hop]
   generalize htk:tok L s.p=tk at *
   simp only[Tk.v,Tk.cells]at *
   simp[Tryd.f85,e1]
   generalize hH2:H1.push (.row true 0 1 [.int .i64 tk.kind,.int .i64 tk.at_,.int .i64 tk.num,.string tk.text])=H2 at *
   by_cases h0:s.c=0
   · have h4:¬tk.kind=4:=fun e=>hc ⟨h0,.inl e⟩
     have h3:¬tk.kind=3:=fun e=>hc ⟨h0,.inr e⟩
     simp[-build_eq,e2,g3,h0,h4,h3]
     exact kk
   · simp[-build_eq,e2,g3,h0]
     exact kk
end
end Go.Vm.Parse
namespace Go.Vm.Parse
open Go Go.Proofs
inductive Ex where
 | mk (kind at_ num op:Int) (name:ByteArray) (sub:List Ex)
def Ex.zero:Ex := .mk 0 0 0 0 ByteArray.empty []
mutual
def RE (H:Heap)(S:Nat→Prop):Ex→List Value→Prop
 | .mk kind at_ num op name sub, cs => ∃ v, cs = [.int .i64 kind, .int .i64 at_, .int .i64 num, .int .i64 op, .string name, v] ∧
  ((v = .slice none 0 0∧sub=[])∨∃ id tl cs',v = .slice (some ⟨id,0,none⟩) sub.length sub.length∧S id∧H.get id = .row true tl 6 cs'∧REs H S sub cs')
def REs (H:Heap)(S:Nat→Prop):List Ex→List Value→Prop
 | [],cs=>cs=[]
 | e :: es,cs=>∃ c1 c2,cs=c1++c2∧RE H S e c1∧REs H S es c2
end
mutual
theorem RE.move {X S S':Nat→Prop}{H H':Heap}(k:Same X H H')(hs:∀ i,S i→i<H.n→S' i∧¬X i):∀ (e:Ex)(cs:List Value),RE H S e cs→RE H' S' e cs
 | .mk kind at_ num op name sub, cs, h => by
  simp only[RE]at h ⊢
  obtain⟨v,h1,h2⟩:=h
  refine⟨v,h1,h2.imp id ?_⟩
  rintro⟨id,tl,cs',h3,h4,h5,h6⟩
  have:=hs id h4 (Heap.lt_of_get h5 (by simp))
  exact⟨id,tl,cs',h3,this.1,k.at h5 (by simp) this.2,REs.move k hs sub cs' h6⟩
theorem REs.move {X S S':Nat→Prop}{H H':Heap}(k:Same X H H')(hs:∀ i,S i→i<H.n→S' i∧¬X i):∀ (es:List Ex)(cs:List Value),REs H S es cs→REs H' S' es cs
 | [],cs,h=>by simp only[REs]at h ⊢;exact h
 | e :: es, cs, h => by
  simp only[REs]at h ⊢
  obtain⟨c1,c2,h1,h2,h3⟩:=h
  exact⟨c1,c2,h1,RE.move k hs e c1 h2,REs.move k hs es c2 h3⟩
end
theorem RE.len {H:Heap}{S:Nat→Prop}{e:Ex}{cs:List Value}(h:RE H S e cs):cs.length=6:=by
 cases e
 simp only[RE]at h
 obtain⟨v,rfl,_⟩:=h
 rfl
theorem RE.six {H:Heap}{S:Nat→Prop}{e:Ex}{cs:List Value}(h:RE H S e cs):∃ a b c d x v,cs=[.int .i64 a,.int .i64 b,.int .i64 c,.int .i64 d,.string x,v]∧isTuple v=false∧v.cells.toList=[v]:=by
 cases e
 simp only[RE]at h
 obtain⟨v,rfl,h⟩:=h
 refine⟨_,_,_,_,_,v,rfl,?_⟩
 rcases h with⟨rfl,_⟩ | ⟨id,tl,cs',rfl,_⟩<;>exact⟨rfl,rfl⟩
theorem RE.nil (H:Heap)(S:Nat→Prop)(a b c d:Int)(x:ByteArray):RE H S (.mk a b c d x []) [.int .i64 a,.int .i64 b,.int .i64 c,.int .i64 d,.string x,.slice none 0 0]:=by
 simp only[RE]
 exact⟨_,rfl,.inl ⟨rfl,trivial⟩⟩
theorem RE.parts {H:Heap}{S:Nat→Prop}(a b c d:Int)(x:ByteArray){sub:List Ex}{id tl:Nat}{cs:List Value}(hS:S id)(hg:H.get id = .row true tl 6 cs)(h:REs H S sub cs) :
  RE H S (.mk a b c d x sub) [.int .i64 a,.int .i64 b,.int .i64 c,.int .i64 d,.string x,.slice (some ⟨id,0,none⟩) sub.length sub.length]:=by
 simp only[RE]
 exact⟨_,rfl,.inr ⟨id,tl,cs,rfl,hS,hg,h⟩⟩
theorem REs.one {H:Heap}{S:Nat→Prop}{e:Ex}{cs:List Value}(h:RE H S e cs):REs H S [e] cs:=by
 simp only[REs]
 exact⟨cs,[],(List.append_nil _).symm,h,rfl⟩
theorem REs.two {H:Heap}{S:Nat→Prop}{e f:Ex}{cs ds:List Value}(h:RE H S e cs)(k:RE H S f ds):REs H S [e,f] (cs++ds):=by
 simp only[REs]
 exact⟨cs,ds,rfl,h,ds,[],(List.append_nil _).symm,k,rfl⟩
inductive XC where
 | row (k lv:Int)
 | loop (k lv:Int) (x:Ex)
 | fact (lv:Int)
 | index (lv:Int)
def b1 (c:UInt8):ByteArray:=⟨#[c]⟩
def tNot:ByteArray:=⟨#[110,111,116]⟩
def tTrue:ByteArray:=⟨#[116,114,117,101]⟩
def tFalse:ByteArray:=⟨#[102,97,108,115,101]⟩
def PS.on (s:PS):PS:={ s with p:=s.p+1 }
def xP (L:List Tk):Nat→XC→PS→Option (Ex × PS)
 | 0,_,_=>none
 | n + 1, .row k lv, s =>
  if s.c≠0 then some (.zero,s)
  else if k=7 then xP L n (.fact lv) s
  else if k=3 then
   if isP L s tNot=false then xP L n (.row 4 lv) s
   else if (opensS L s (lv+1)).c≠0 then some (.zero,opensS L s (lv+1))
   else (xP L n (.row 3 (lv+1)) (opensS L s (lv+1)).on).map fun q=>(.mk 5 (tok L s.p).at_ 0 23 ByteArray.empty [q.1],q.2)
  else (xP L n (.row (k+1) lv) s).bind fun q=>xP L n (.loop k lv q.1) q.2
 | n + 1, .loop k lv x, s =>
  if opP L s k=0 then some (x,s)
  else (xP L n (.row (k+1) lv) s.on).bind fun q =>
   if k=4 then some (.mk 6 (tok L s.p).at_ 0 (opP L s k) ByteArray.empty [x,q.1],q.2)
   else xP L n (.loop k lv (.mk 6 (tok L s.p).at_ 0 (opP L s k) ByteArray.empty [x,q.1])) q.2
 | n + 1, .fact lv, s =>
  if isP L s (b1 45)=true then
   if (opensS L s (lv+1)).c≠0 then some (.zero,opensS L s (lv+1))
   else (xP L n (.fact (lv+1)) (opensS L s (lv+1)).on).map fun q=>(.mk 5 (tok L s.p).at_ 0 14 ByteArray.empty [q.1],q.2)
  else if (tok L s.p).kind=2 then some (.mk 1 (tok L s.p).at_ (tok L s.p).num 0 ByteArray.empty [],s.on)
  else if isP L s tTrue=true then some (.mk 2 (tok L s.p).at_ 1 0 ByteArray.empty [],s.on)
  else if isP L s tFalse=true then some (.mk 2 (tok L s.p).at_ 0 0 ByteArray.empty [],s.on)
  else if isP L s (b1 40)=true then
   if (opensS L s (lv+1)).c≠0 then some (.zero,opensS L s (lv+1))
   else (xP L n (.row 1 (lv+1)) (opensS L s (lv+1)).on).map fun q=>(q.1,mustS L q.2 (b1 41))
  else if (tok L s.p).kind=1 then
   if isP L s.on (b1 91)=false then some (.mk 3 (tok L s.p).at_ 0 0 (tok L s.p).text [],s.on)
   else (xP L n (.index lv) s.on).map fun q=>(.mk 4 (tok L s.p).at_ 0 0 (tok L s.p).text [q.1],q.2)
  else some (.zero,faultS L s 14)
 | n + 1, .index lv, s =>
  if isP L s (b1 91)=false then some (.zero,faultS L s 14)
  else if (opensS L s (lv+1)).c≠0 then some (.zero,faultS L (opensS L s (lv+1)) 14)
  else (xP L n (.row 1 (lv+1)) (opensS L s (lv+1)).on).map fun q=>(q.1,mustS L q.2 (b1 93))
def RetE (H:Heap)(r lid:Nat)(L:List Tk)(e:Ex)(s:PS)(o:Out)(H':Heap):Prop :=
 ∃ cs,o = .val (.agg ⟨cs⟩)∧Same (·=r) H H'∧RD H' r lid L s∧RE H' (fun i=>H.n≤i) e cs
theorem RD.lid_lt {H:Heap}{r lid:Nat}{L:List Tk}{s:PS}(h:RD H r lid L s):lid<H.n:=by
 obtain⟨tl,h2⟩:=h.toks
 exact Heap.lt_of_get h2 (by simp)
theorem RD.keep {X:Nat→Prop}{H H':Heap}{r lid:Nat}{L:List Tk}{s:PS}(h:RD H r lid L s)(k:Same X H H')(hr:¬X r)(hl:¬X lid):RD H' r lid L s:=by
 obtain⟨tl,h2⟩:=h.toks
 exact⟨k.at h.obj (by simp) hr,⟨tl,k.at h2 (by simp) hl⟩,h.small,h.place⟩
theorem RD.step {A H:Heap}{r lid:Nat}{L:List Tk}{s:PS}(h:RD H r lid L s)(k:Same (·=r) A H)(s':PS)(hp:s'.p≤L.length) :
  Same (·=r) A (H.set r (.row true 0 1 [.slice (some ⟨lid,0,none⟩) L.length L.length,.int .i64 s'.p,.int .i64 s'.c,.int .i64 s'.a])) ∧
   RD (H.set r (.row true 0 1 [.slice (some ⟨lid,0,none⟩) L.length L.length,.int .i64 s'.p,.int .i64 s'.c,.int .i64 s'.a])) r lid L s':=⟨k.then_set h.lt (.inl rfl) _,h.turn s' hp⟩
theorem RD.on {A H:Heap}{r lid:Nat}{L:List Tk}{s:PS}(h:RD H r lid L s)(k:Same (·=r) A H)(hc:s.c=0)(hp:s.p<L.length) :
  Same (·=r) A (H.set r (.row true 0 1 [.slice (some ⟨lid,0,none⟩) L.length L.length,.int .i64 (s.p+1),.int .i64 0,.int .i64 s.a])) ∧
   RD (H.set r (.row true 0 1 [.slice (some ⟨lid,0,none⟩) L.length L.length,.int .i64 (s.p+1),.int .i64 0,.int .i64 s.a])) r lid L s.on:=by
 have:=h.step k s.on (by show s.p+1≤_;omega)
 simp only[PS.on,hc,Int.natCast_add,Int.natCast_one]at this
 simp only[PS.on,hc]
 exact this
theorem RD.on2 {A H:Heap}{r lid:Nat}{L:List Tk}{s:PS}(h:RD H r lid L s)(k:Same (·=r) A H)(hp:s.p<L.length) :
  Same (·=r) A (H.set r (.row true 0 1 [.slice (some ⟨lid,0,none⟩) L.length L.length,.int .i64 (s.p+1),.int .i64 s.c,.int .i64 s.a])) ∧
   RD (H.set r (.row true 0 1 [.slice (some ⟨lid,0,none⟩) L.length L.length,.int .i64 (s.p+1),.int .i64 s.c,.int .i64 s.a])) r lid L s.on:=by
 have:=h.step k s.on (by show s.p+1≤_;omega)
 simp only[PS.on,Int.natCast_add,Int.natCast_one]at this
 simp only[PS.on]
 exact this
theorem isP_lt {L:List Tk}{s:PS}{x:ByteArray}(h:isP L s x=true):s.p<L.length:=tok_ge_kind (by
 unfold isP at h
 simp only[decide_eq_true_eq]at h
 rcases h.2.1 with h | h<;>omega)
theorem ret_store {H H1:Heap}{r lid:Nat}{L:List Tk}{s s':PS}{z:AObj}(h:RD H r lid L s)(k:Same (·=r) (H.push z) H1)(h1:RD H1 r lid L s'){e:Ex}{cs:List Value}(he:RE H1 (fun i=>H.n+1≤i) e cs)(o:AObj) :
  Same (·=r) H (H1.set H.n o)∧RD (H1.set H.n o) r lid L s'∧RE (H1.set H.n o) (fun i=>H.n≤i) e cs:=by
 have hn:=k.n
 simp at hn
 have hr:=h.lt
 have hl:=h.lid_lt
 have ks:Same (fun i=>i=H.n) H1 (H1.set H.n o):=Same.set (X:=fun i=>i=H.n) H1 (by omega) rfl o
 refine⟨(Same.push _ _ _).trans k |>.then ks (fun i hi => .inr (by omega)),h1.keep ks (by omega) (by omega),RE.move ks (fun i hi hlt=>⟨by omega,by omega⟩) _ _ he⟩
theorem ret_one {H H1:Heap}{r lid:Nat}{L:List Tk}{s s':PS}{z:AObj}(h:RD H r lid L s)(k:Same (·=r) (H.push z) H1)(h1:RD H1 r lid L s'){e:Ex}{cs:List Value}(he:RE H1 (fun i=>H.n+1≤i) e cs)(o:AObj)(a b c d:Int)(x:ByteArray) :
  Same (·=r) H ((H1.push (.row true 0 6 cs)).set H.n o)∧RD ((H1.push (.row true 0 6 cs)).set H.n o) r lid L s'∧RE ((H1.push (.row true 0 6 cs)).set H.n o) (fun i=>H.n≤i) (.mk a b c d x [e]) [.int .i64 a,.int .i64 b,.int .i64 c,.int .i64 d,.string x,.slice (some ⟨H1.n,0,none⟩) 1 1]:=by
 have hn:=k.n
 simp at hn
 have k2:=k.then_push (.row true 0 6 cs)
 have h2:=h1.same (Same.push _ _ (.row true 0 6 cs))
 have e2:RE (H1.push (.row true 0 6 cs)) (fun i=>H.n+1≤i) e cs:=RE.move (Same.push (fun _=>False) _ _) (fun i hi hlt=>⟨hi,fun h=>h⟩) _ _ he
 have e3:RE (H1.push (.row true 0 6 cs)) (fun i=>H.n+1≤i) (.mk a b c d x [e]) _:=RE.parts a b c d x (id:=H1.n) hn (Heap.get_push_self _ _) (REs.one e2)
 exact ret_store h k2 h2 e3 o
end Go.Vm.Parse
namespace Go.Vm.Parse
open Go Go.Proofs
attribute [local simp] repCells_succ writeAt rd_Fr toList_beq gpe gpn spe gse gsn ne_r0 ne_l0 le_s0 ne_r1 ne_l1 lt_s1 le_s1 ne_r2 ne_l2 lt_s2 le_s2 ne_r3 ne_l3 lt_s3 le_s3 ne_r4 ne_l4 lt_s4 le_s4 ne_r5 ne_l5 lt_s5 le_s5 ne_r6 ne_l6 lt_s6 le_s6 ne_r7 ne_l7 lt_s7 le_s7
def z6:List Value:=[.int .i64 0,.int .i64 0,.int .i64 0,.int .i64 0,.string ByteArray.empty,.slice none 0 0]
theorem pl_row0:planOf Tryd.prog (drawN Tryd.f49 0)=some [(some (0,2)),(some (0,2)),(some (0,1)),none,none,none,none,none,none,none,none]:=by decide +kernel
theorem tNot_eq:tNot=⟨#[110,111,116]⟩:=rfl
section
variable {E:Hooks} (hE:Plain E) (r lid:Nat) (L:List Tk)
def RowOK (n:Nat):Prop:=∀ k lv s e s',xP L n (.row k lv) s=some (e,s')→1≤k→k≤7→0≤lv→lv≤24→∀ H,RD H r lid L s→Gives ((run Tryd.prog E).call 49 [.pointer (some ⟨r,0,none⟩),.int .i64 k,.int .i64 lv] H) (RetE H r lid L e s')
def FactOK (n:Nat):Prop:=∀ lv s e s',xP L n (.fact lv) s=some (e,s')→0≤lv→lv≤24→∀ H,RD H r lid L s→Gives ((run Tryd.prog E).call 82 [.pointer (some ⟨r,0,none⟩),.int .i64 lv] H) (RetE H r lid L e s')
def IndexOK (n:Nat):Prop:=∀ lv s e s',xP L n (.index lv) s=some (e,s')→0≤lv→lv≤24→∀ H,RD H r lid L s→Gives ((run Tryd.prog E).call 97 [.pointer (some ⟨r,0,none⟩),.int .i64 lv] H) (RetE H r lid L e s')
end
theorem opens_ok {L:List Tk}{s:PS}{lv:Int}(h:¬(opensS L s lv).c≠0)(h0:s.c=0):opensS L s lv=s∧lv≤24:=by
 unfold opensS at *
 split at h
 · rename_i hl
   unfold faultS at h
   rw[if_pos h0]at h
   simp at h
 · rename_i hl
   rw[if_neg hl]
   exact⟨rfl,by omega⟩
def RowI (r lid:Nat)(L:List Tk)(k lv:Int)(H:Heap)(X:Nat)(e:Ex)(s':PS)(n m:Nat)(t:List Value)(H':Heap):Prop :=
 m≤n∧∃ x s1 csx,xP L m (.loop k lv x) s1=some (e,s')∧rd t 9 = .int .i64 (opP L s1 k)∧RD H' r lid L s1∧Same (·=r) (H.push (.row true 0 1 z6)) H'∧X<H'.n∧H'.get X = .row true 0 1 csx∧RE H' (fun i=>H.n+1≤i∧i≠X) x csx
section
variable {E:Hooks} (hE:Plain E) {r lid:Nat} {L:List Tk} {n:Nat}
include hE
theorem row_walk (ih:∀ m,m≤n→RowOK (E:=E) r lid L m∧FactOK (E:=E) r lid L m):RowOK (E:=E) r lid L (n+1):=by
 intro k lv s e s' hx hk1 hk7 hl0 hl24 H h
 have hr:=h.lt
 have hl:=h.lid_lt
 have hsm:=h.small
 have h0:RD (H.push (.row true 0 1 z6)) r lid L s:=h.same (Same.push _ _ _)
 have eb:=bad_run hE h0
 simp only[z6]at h0 eb
 rw[c_row hE,callB,bodyOf]
 rw[xP]at hx
 by_cases hc:s.c=0
 · rw[if_neg (by omega)]at hx
   by_cases h7:k=7
   · rw[if_pos h7]at hx
     obtain⟨o,H1,e1,cs,rfl,k1,h1,r1⟩:=(ih n (Nat.le_refl n)).2 _ _ _ _ hx hl0 hl24 _ h0
     obtain⟨a,b,c,d,x,v,rfl,hv1,hv2⟩:=r1.six
     have hn:H.n<H1.n:=by have:=k1.n;simp at this;omega
     have g1:H1.get H.n = .row true 0 1 z6:=k1.at (Heap.get_push_self _ _) (by simp) (by omega)
     simp only[z6]at g1
     simp[Tryd.f49,eb,hc,h7,e1,g1,hn]
     exact⟨_,rfl,ret_store h k1 h1 r1 _⟩
   · rw[if_neg h7]at hx
     by_cases h3:k=3
     · rw[if_pos h3]at hx
       obtain⟨HA,eA,kA⟩:=is_run hE h0 tNot
       have hA:=h0.same kA
       have nA:=kA.n
       simp at nA
       simp only[tNot_eq]at eA
       by_cases hno:isP L s tNot=false
       · rw[if_pos hno]at hx
         obtain⟨o,H1,e1,cs,rfl,k1,h1,r1⟩:=(ih n (Nat.le_refl n)).1 _ _ _ _ _ hx (by omega) (by omega) hl0 hl24 _ hA
         obtain⟨a,b,c,d,x,v,rfl,hv1,hv2⟩:=r1.six
         have hn:H.n<H1.n:=by have:=k1.n;omega
         have kk:Same (·=r) (H.push (.row true 0 1 z6)) H1:=(Same.none kA).trans k1
         have g1:H1.get H.n = .row true 0 1 z6:=kk.at (Heap.get_push_self _ _) (by simp) (by omega)
         simp only[z6]at g1
         rw[tNot_eq]at hno
         simp[Tryd.f49,eb,hc,h3,eA,hno,e1,g1,hn]
         exact⟨_,rfl,ret_store h kk h1 (RE.move (Same.refl (fun _=>False) _) (fun i hi _=>⟨by omega,fun h=>h⟩) _ _ r1) _⟩
       · rw[if_neg hno]at hx
         have hyes:isP L s tNot=true:=by simpa using hno
         obtain⟨HB,eB,kB⟩:=now_run hE hA
         have hB:=hA.same kB
         have nB:=kB.n
         obtain⟨HC,eC,kC,hC⟩:=opens_run hE hB (lv+1)
         have nC:=kC.n
         have kAC:Same (·=r) (H.push (.row true 0 1 z6)) HC:=((Same.none kA).trans (Same.none kB)).trans kC
         have gC:HC.get H.n = .row true 0 1 z6:=kAC.at (Heap.get_push_self _ _) (by simp) (by omega)
         simp only[z6]at gC
         have hnC:H.n<HC.n:=by omega
         have hw:=wrap64 (lv+1) (by omega) (by omega)
         rw[tNot_eq]at hyes
         generalize htk:tok L s.p=tk at *
         simp only[Tk.v,Tk.cells]at eB
         by_cases ho:(opensS L s (lv+1)).c≠0
         · rw[if_pos ho]at hx
           cases hx
           simp[Tryd.f49,eb,hc,h3,eA,hyes,eB,hw,eC,ho,gC,hnC]
           exact⟨_,rfl,ret_store h kAC hC (RE.nil _ _ _ _ _ _ _) _⟩
         · rw[if_neg ho]at hx
           obtain⟨hos,hlv⟩:=opens_ok ho hc
           rw[hos]at hx hC
           have ho2:(opensS L s (lv+1)).c=0:=by rw[hos];exact hc
           simp only[Option.map_eq_some_iff]at hx
           obtain⟨⟨e1x,s1x⟩,hx1,hx2⟩:=hx
           cases hx2
           have hlt:=isP_lt hyes
           obtain⟨kD,hD⟩:=hC.on kAC hc hlt
           obtain⟨o,H1,e1,cs,rfl,k1,h1,r1⟩:=(ih n (Nat.le_refl n)).1 _ _ _ _ _ hx1 (by omega) (by omega) (by omega) hlv _ hD
           obtain⟨a,b,c,d,x,v,rfl,hv1,hv2⟩:=r1.six
           have hn:H.n<H1.n:=by have:=k1.n;simp at this;omega
           have kk:=kD.trans k1
           have g1:H1.get H.n = .row true 0 1 z6:=kk.at (Heap.get_push_self _ _) (by simp) (by omega)
           simp only[z6]at g1
           have hobj:=hC.obj
           have hw2:=wrap64 ((s.p:Int)+1) (by omega) (by omega)
           simp[Tryd.f49,eb,hc,h3,eA,hyes,eB,hw,eC,ho2,hobj,hw2,e1,g1,hn]
           exact⟨_,rfl,ret_one h kk h1 (RE.move (Same.refl (fun _=>False) _) (fun i hi _=>⟨by simp at hi;omega,fun h=>h⟩) _ _ r1) _ _ _ _ _ _⟩
     · rw[if_neg h3]at hx
       simp only[Option.bind_eq_some_iff]at hx
       obtain⟨⟨x0,s0⟩,hx1,hx2⟩:=hx
       have hwk:=wrap64 (k+1) (by omega) (by omega)
       obtain⟨o,H1,e1,cs0,rfl,k1,h1,r1⟩:=(ih n (Nat.le_refl n)).1 _ _ _ _ _ hx1 (by omega) (by omega) hl0 hl24 _ h0
       have hn1:=k1.n
       simp at hn1
       have g1:H1.get H.n = .row true 0 1 z6:=k1.at (Heap.get_push_self _ _) (by simp) (by omega)
       obtain⟨a0,b0,c0,d0,y0,v0,rfl,hv1,hv2⟩:=r1.six
       have kA:=k1.then_push (.row true 0 1 [.int .i64 a0,.int .i64 b0,.int .i64 c0,.int .i64 d0,.string y0,v0])
       have hA:=h1.same (Same.push _ _ (.row true 0 1 [.int .i64 a0,.int .i64 b0,.int .i64 c0,.int .i64 d0,.string y0,v0]))
       obtain⟨HB,eB,kB⟩:=op_run hE hA k
       have hB:=hA.same kB
       have nB:=kB.n
       simp at nB
       simp[Tryd.f49,eb,hc,h7,h3,hwk,e1,hv1,eB]
       refine loop_wp (RowI r lid L k lv H H1.n e s' n) n ?_ ?_
       · refine⟨Nat.le_refl n,x0,s0,_,hx2,by simp,hB,kA.trans (Same.none kB),by omega,kB.at (Heap.get_push_self _ _) (by simp) (fun h=>h),?_⟩
         have:=RE.move (Same.push (fun _=>False) H1 (.row true 0 1 [.int .i64 a0,.int .i64 b0,.int .i64 c0,.int .i64 d0,.string y0,v0])) (S':=fun i=>H.n+1≤i∧i≠H1.n) (fun i hi hlt=>⟨⟨by simp at hi;omega,by omega⟩,fun h=>h⟩) _ _ r1
         exact RE.move kB (fun i hi hlt=>⟨hi,fun h=>h⟩) _ _ this
       rintro m t H' hk ⟨hmn,x,s1,csx,hxl,g9,hR,hS,hX1,gX,rX⟩
       have ht:t.length=87:=hk.1.trans (by simp[len_Bs])
       have hh:=hk.all [0,1,2,6,8] (by decide +kernel)
       simp at hh
       obtain⟨t0,t1,t2,t6,t8⟩:=hh
       have gN:H'.get H.n = .row true 0 1 z6:=hS.at (Heap.get_push_self _ _) (by simp) (by omega)
       have hnN:H.n<H'.n:=by omega
       simp only[z6]at gN
       obtain⟨a,b,c,d,y,v,rfl,hv1,hv2⟩:=rX.six
       cases m with
       | zero=>cases hxl
       | succ m =>
       rw[xP]at hxl
       by_cases hop:opP L s1 k=0
       · rw[if_pos hop]at hxl
         cases hxl
         simp[ht,g9,hop,t0,t1,t2,t6,t8,gX,gN,hv1,hnN]
         refine⟨_,rfl,ret_store h hS hR (RE.move (Same.refl (fun _=>False) _) (fun i hi _=>⟨by omega,fun h=>h⟩) _ _ rX) _⟩
       · rw[if_neg hop]at hxl
         simp only[Option.bind_eq_some_iff]at hxl
         obtain⟨⟨x2,s2⟩,hxa,hxb⟩:=hxl
         have hc1:s1.c=0:=by
          unfold opP at hop
          split at hop
          · rename_i h;exact h.1
          · exact absurd rfl hop
         have hlt1:s1.p<L.length:=tok_ge_kind (by
          unfold opP at hop
          split at hop
          · rename_i h;rcases h.2 with h | h<;>omega
          · exact absurd rfl hop)
         obtain⟨HC,eC,kC⟩:=now_run hE hR
         have hC:=hR.same kC
         have nC:=kC.n
         obtain⟨kD,hD⟩:=hC.on (hS.trans (Same.none kC)) hc1 hlt1
         obtain⟨o,HE,e2,cs2,rfl,k2,h2,r2⟩:=(ih m (by omega)).1 _ _ _ _ _ hxa (by omega) (by omega) hl0 hl24 _ hD
         obtain⟨a2,b2,c2,d2,y2,v2,rfl,hw1,hw2⟩:=r2.six
         have nE:=k2.n
         simp at nE
         have gEX:HE.get H1.n = .row true 0 1 [.int .i64 a,.int .i64 b,.int .i64 c,.int .i64 d,.string y,v]:=k2.at (by
          rw[gsn _ (by omega),kC.get _ hX1 (fun h=>h)];exact gX) (by simp) (by omega)
         have gEN:HE.get H.n = .row true 0 1 z6:=(kD.trans k2).at (Heap.get_push_self _ _) (by simp) (by omega)
         have gDX:(HC.set r (.row true 0 1 [.slice (some ⟨lid,0,none⟩) L.length L.length,.int .i64 (s1.p+1),.int .i64 0,.int .i64 s1.a])).get H1.n = .row true 0 1 [.int .i64 a,.int .i64 b,.int .i64 c,.int .i64 d,.string y,v]:=by
          rw[gsn _ (by omega),kC.get _ hX1 (fun h=>h)];exact gX
         have hobj:=hC.obj
         have hw3:=wrap64 ((s1.p:Int)+1) (by omega) (by omega)
         have hXE:H1.n<HE.n:=by omega
         have hNE:H.n<HE.n:=by omega
         simp only[z6]at gEN
         generalize htk:tok L s1.p=tk at *
         simp only[Tk.v,Tk.cells]at eC
         simp[ht,g9,hop,t0,t1,t2,t6,t8,eC,hobj,hc1,hw3]
         refine region_plan (by exact pl_row0) ?_
         generalize hHD:HC.set r (.row true 0 1 [.slice (some ⟨lid,0,none⟩) L.length L.length,.int .i64 (s1.p+1),.int .i64 0,.int .i64 s1.a])=HD at *
         simp[ht,g9,hop,t0,t1,t2,t6,t8,hwk,gDX,e2,gEX,hv1,hw1,hXE]
         have rE:RE HE (fun i=>H.n+1≤i∧i≠H1.n) x _:=RE.move ((Same.none (X:=(·=r)) kC).trans (by
           have:=Same.set (X:=(·=r)) HC hC.lt rfl (.row true 0 1 [.slice (some ⟨lid,0,none⟩) L.length L.length,.int .i64 (s1.p+1),.int .i64 0,.int .i64 s1.a])
           rw[hHD]at this
           exact this.trans k2)) (fun i hi hlt=>⟨hi,by omega⟩) _ _ rX
         have nD:HC.n=HD.n:=by rw[← hHD];rfl
         have rE2:RE HE (fun i=>H.n+1≤i∧i≠H1.n) x2 _:=RE.move (Same.refl (fun _=>False) _) (fun i hi hlt=>⟨⟨by omega,by omega⟩,fun h=>h⟩) _ _ r2
         have kG:=(kD.trans k2).then_push (.row true 0 6 ([.int .i64 a,.int .i64 b,.int .i64 c,.int .i64 d,.string y,v]++[.int .i64 a2,.int .i64 b2,.int .i64 c2,.int .i64 d2,.string y2,v2]))
         have hG:=h2.same (Same.push _ _ (.row true 0 6 ([.int .i64 a,.int .i64 b,.int .i64 c,.int .i64 d,.string y,v]++[.int .i64 a2,.int .i64 b2,.int .i64 c2,.int .i64 d2,.string y2,v2])))
         have mv:=fun e cs (q:RE HE (fun i=>H.n+1≤i∧i≠H1.n) e cs)=>RE.move (Same.push (fun _=>False) HE (.row true 0 6 ([.int .i64 a,.int .i64 b,.int .i64 c,.int .i64 d,.string y,v]++[.int .i64 a2,.int .i64 b2,.int .i64 c2,.int .i64 d2,.string y2,v2]))) (S':=fun i=>H.n+1≤i∧i≠H1.n) (fun i hi hlt=>⟨hi,fun h=>h⟩) e cs q
         have rG:=RE.parts 6 tk.at_ 0 (opP L s1 k) ByteArray.empty (S:=fun i=>H.n+1≤i∧i≠H1.n) (id:=HE.n) ⟨by omega,by omega⟩ (Heap.get_push_self _ _) (REs.two (mv _ _ rE) (mv _ _ rE2))
         simp only[List.cons_append,List.nil_append]at kG hG rG
         generalize hHG:HE.push (.row true 0 6 [.int .i64 a,.int .i64 b,.int .i64 c,.int .i64 d,.string y,v,.int .i64 a2,.int .i64 b2,.int .i64 c2,.int .i64 d2,.string y2,v2])=HG at *
         have nG:HG.n=HE.n+1:=by rw[← hHG];rfl
         have gGN:HG.get H.n = .row true 0 1 z6:=kG.at (Heap.get_push_self _ _) (by simp) (by omega)
         simp only[z6]at gGN
         have kF:=kG.then_set (i:=H1.n) (by omega) (.inr (by simp;omega)) (.row true 0 1 [.int .i64 6,.int .i64 tk.at_,.int .i64 0,.int .i64 (opP L s1 k),.string ByteArray.empty,.slice (some ⟨HE.n,0,none⟩) 2 2])
         have sF:Same (fun i=>i=H1.n) HG (HG.set H1.n (.row true 0 1 [.int .i64 6,.int .i64 tk.at_,.int .i64 0,.int .i64 (opP L s1 k),.string ByteArray.empty,.slice (some ⟨HE.n,0,none⟩) 2 2])):=Same.set (X:=fun i=>i=H1.n) HG (by omega) rfl _
         have hF:=hG.keep sF (by omega) (by omega)
         have rF:RE (HG.set H1.n (.row true 0 1 [.int .i64 6,.int .i64 tk.at_,.int .i64 0,.int .i64 (opP L s1 k),.string ByteArray.empty,.slice (some ⟨HE.n,0,none⟩) 2 2])) (fun i=>H.n+1≤i∧i≠H1.n) _ _:=RE.move sF (fun i hi hlt=>⟨hi,hi.2⟩) _ _ rG
         have gFX:(HG.set H1.n (.row true 0 1 [.int .i64 6,.int .i64 tk.at_,.int .i64 0,.int .i64 (opP L s1 k),.string ByteArray.empty,.slice (some ⟨HE.n,0,none⟩) 2 2])).get H1.n=_:=Heap.get_set_self _ _ (by omega)
         have gFN:(HG.set H1.n (.row true 0 1 [.int .i64 6,.int .i64 tk.at_,.int .i64 0,.int .i64 (opP L s1 k),.string ByteArray.empty,.slice (some ⟨HE.n,0,none⟩) 2 2])).get H.n=_:=sF.at gGN (by simp) (by omega)
         have nF:(HG.set H1.n (.row true 0 1 [.int .i64 6,.int .i64 tk.at_,.int .i64 0,.int .i64 (opP L s1 k),.string ByteArray.empty,.slice (some ⟨HE.n,0,none⟩) 2 2])).n=HG.n:=rfl
         generalize hHF:HG.set H1.n (.row true 0 1 [.int .i64 6,.int .i64 tk.at_,.int .i64 0,.int .i64 (opP L s1 k),.string ByteArray.empty,.slice (some ⟨HE.n,0,none⟩) 2 2])=HF at *
         have hNF:H.n<HF.n:=by omega
         by_cases h4:k=4
         · rw[if_pos h4]at hxb
           cases hxb
           subst h4
           simp[ht,t0,t1,t2,t6,t8,gFX,gFN,hNF]
           exact⟨_,rfl,ret_store h kF hF (RE.move (Same.refl (fun _=>False) _) (fun i hi _=>⟨by omega,fun h=>h⟩) _ _ rF) _⟩
         · rw[if_neg h4]at hxb
           obtain⟨HI,eI,kI⟩:=op_run hE hF k
           have nI:=kI.n
           simp[ht,h4,t0,t1,t2,t6,t8,eI]
           refine⟨m,by omega,by omega,_,s2,_,hxb,?_,hF.same kI,kF.trans (Same.none kI),by omega,kI.at gFX (by simp) (fun h=>h),RE.move kI (fun i hi hlt=>⟨hi,fun h=>h⟩) _ _ rF⟩
           simp[ht]
 · rw[if_pos hc]at hx
   cases hx
   simp[Tryd.f49,eb,hc]
   exact⟨_,rfl,Same.push _ _ _,h0,RE.nil _ _ _ _ _ _ _⟩
end
theorem pl_fact0:planOf Tryd.prog (drawN Tryd.f82 0)=some [(some (0,2)),(some (0,2)),none,none,none,none,none,none,none]:=by decide +kernel
theorem pl_fact1:planOf Tryd.prog (drawN Tryd.f82 1)=some [(some (0,2)),(some (0,2)),(some (0,2)),(some (0,2)),none,none,none,none,none,none]:=by decide +kernel
section
variable {E:Hooks} (hE:Plain E) {r lid:Nat} {L:List Tk} {n:Nat}
include hE
theorem index_walk (ih:RowOK (E:=E) r lid L n):IndexOK (E:=E) r lid L (n+1):=by
 intro lv s e s' hx hl0 hl24 H h
 have hr:=h.lt
 have hl:=h.lid_lt
 have hsm:=h.small
 have h0:RD (H.push (.row true 0 1 z6)) r lid L s:=h.same (Same.push _ _ _)
 obtain⟨HA,eA,kA⟩:=is_run hE h0 (b1 91)
 have hA:=h0.same kA
 have nA:=kA.n
 simp at nA
 simp only[z6,b1]at eA
 have kA2:Same (·=r) (H.push (.row true 0 1 z6)) HA:=Same.none kA
 rw[c_index hE,callB,bodyOf]
 rw[xP]at hx
 by_cases hi:isP L s (b1 91)=false
 · rw[if_pos hi]at hx
   cases hx
   obtain⟨HB,eB,kB,hB⟩:=fault_run hE hA 14
   have nB:=kB.n
   have kk:=kA2.trans kB
   have gB:HB.get H.n = .row true 0 1 z6:=kk.at (Heap.get_push_self _ _) (by simp) (by omega)
   have hnB:H.n<HB.n:=by omega
   simp only[b1]at hi
   simp only[z6]at gB
   simp[Tryd.f97,eA,hi,eB,gB,hnB]
   exact⟨_,rfl,ret_store h kk hB (RE.nil _ _ _ _ _ _ _) _⟩
 · rw[if_neg hi]at hx
   have hy:isP L s (b1 91)=true:=by simpa using hi
   have hc:s.c=0:=by
    unfold isP at hy
    simp only[decide_eq_true_eq]at hy
    exact hy.1
   have hlt:=isP_lt hy
   obtain⟨HC,eC,kC,hC⟩:=opens_run hE hA (lv+1)
   have nC:=kC.n
   have kAC:=kA2.trans kC
   have hw:=wrap64 (lv+1) (by omega) (by omega)
   simp only[b1]at hy
   by_cases ho:(opensS L s (lv+1)).c≠0
   · rw[if_pos ho]at hx
     cases hx
     obtain⟨HB,eB,kB,hB⟩:=fault_run hE hC 14
     have nB:=kB.n
     have kk:=kAC.trans kB
     have gB:HB.get H.n = .row true 0 1 z6:=kk.at (Heap.get_push_self _ _) (by simp) (by omega)
     have hnB:H.n<HB.n:=by omega
     simp only[z6]at gB
     simp[Tryd.f97,eA,hy,hw,eC,ho,eB,gB,hnB]
     exact⟨_,rfl,ret_store h kk hB (RE.nil _ _ _ _ _ _ _) _⟩
   · rw[if_neg ho]at hx
     obtain⟨hos,hlv⟩:=opens_ok ho hc
     have ho2:(opensS L s (lv+1)).c=0:=by rw[hos];exact hc
     rw[hos]at hx hC
     simp only[Option.map_eq_some_iff]at hx
     obtain⟨⟨e1x,s1x⟩,hx1,hx2⟩:=hx
     cases hx2
     obtain⟨kD,hD⟩:=hC.on kAC hc hlt
     obtain⟨o,H1,e1,cs,rfl,k1,h1,r1⟩:=ih _ _ _ _ _ hx1 (by omega) (by omega) (by omega) hlv _ hD
     obtain⟨a,b,c,d,x,v,rfl,hv1,hv2⟩:=r1.six
     have n1:=k1.n
     simp at n1
     have kk:=(kD.trans k1).then_push (.row true 0 1 [.int .i64 a,.int .i64 b,.int .i64 c,.int .i64 d,.string x,v])
     have h2:=h1.same (Same.push _ _ (.row true 0 1 [.int .i64 a,.int .i64 b,.int .i64 c,.int .i64 d,.string x,v]))
     obtain⟨H3,e3,k3,h3⟩:=must_run hE h2 (b1 93)
     have n3:=k3.n
     simp at n3
     have k4:=kk.trans k3
     have g3:H3.get H.n = .row true 0 1 z6:=k4.at (Heap.get_push_self _ _) (by simp) (by omega)
     have g3X:H3.get H1.n = .row true 0 1 [.int .i64 a,.int .i64 b,.int .i64 c,.int .i64 d,.string x,v]:=k3.at (Heap.get_push_self _ _) (by simp) (by omega)
     have hn3:H.n<H3.n:=by omega
     have hobj:=hC.obj
     have hw2:=wrap64 ((s.p:Int)+1) (by omega) (by omega)
     simp only[z6]at g3
     simp only[b1]at e3
     have r3:RE H3 (fun i=>H.n+1≤i) _ _:=RE.move k3 (fun i hi hlt=>⟨hi,by omega⟩) _ _ (RE.move (Same.push (fun _=>False) H1 (.row true 0 1 [.int .i64 a,.int .i64 b,.int .i64 c,.int .i64 d,.string x,v])) (S':=fun i=>H.n+1≤i) (fun i hi hlt=>⟨by simp at hi;omega,fun h=>h⟩) _ _ r1)
     simp[Tryd.f97,eA,hy,hw,eC,ho2,hc,hobj,hw2,e1,hv1,e3,g3,g3X,hn3]
     exact⟨_,rfl,ret_store h k4 h3 r3 _⟩
theorem fact_walk (ih:RowOK (E:=E) r lid L n∧FactOK (E:=E) r lid L n∧IndexOK (E:=E) r lid L n):FactOK (E:=E) r lid L (n+1):=by
 intro lv s e s' hx hl0 hl24 H h
 have hr:=h.lt
 have hl:=h.lid_lt
 have hsm:=h.small
 have h0:RD (H.push (.row true 0 1 z6)) r lid L s:=h.same (Same.push _ _ _)
 obtain⟨HA,eA,kA⟩:=now_run hE h0
 have hA:=h0.same kA
 have nA:=kA.n
 simp at nA
 have hT:=hA.same (Same.push _ _ (.row true 0 1 (tok L s.p).cells))
 have kT:Same (fun _=>False) (H.push (.row true 0 1 z6)) (HA.push (.row true 0 1 (tok L s.p).cells)):=kA.then_push _
 have gT:(HA.push (.row true 0 1 (tok L s.p).cells)).get HA.n = .row true 0 1 (tok L s.p).cells:=Heap.get_push_self _ _
 have nT:(HA.push (.row true 0 1 (tok L s.p).cells)).n=HA.n+1:=rfl
 obtain⟨HM,eM,kM⟩:=is_run hE hT (b1 45)
 have hM:=hT.same kM
 have nM:=kM.n
 have kTM:=kT.trans kM
 have gMT:=kM.at gT (by simp) (fun h=>h)
 rw[c_fact hE,callB,bodyOf]
 rw[xP]at hx
 have hop0:∀ x,isP L s x=true→s.c=0:=fun x hy=>by
  unfold isP at hy
  simp only[decide_eq_true_eq]at hy
  exact hy.1
 have hw:=wrap64 (lv+1) (by omega) (by omega)
 have hw2:s.p<L.length→IntKind.i64.wrap ((s.p:Int)+1)=(s.p:Int)+1:=fun hp=>wrap64 _ (by omega) (by omega)
 generalize htk:tok L s.p=tk at *
 simp only[Tk.v,Tk.cells,z6,b1]at eA eM gT gMT
 by_cases cM:isP L s (b1 45)=true
 · rw[if_pos cM]at hx
   have hc:=hop0 _ cM
   have hlt:=isP_lt cM
   obtain⟨HC,eC,kC,hC⟩:=opens_run hE hM (lv+1)
   have nC:=kC.n
   have kAC:=(Same.none (X:=(·=r)) kTM).trans kC
   have hw2:=hw2 hlt
   have gC:HC.get H.n = .row true 0 1 z6:=kAC.at (Heap.get_push_self _ _) (by simp) (by omega)
   have gCT:=kC.at gMT (by simp) (by omega)
   have hnC:H.n<HC.n:=by omega
   simp only[b1]at cM
   simp only[z6]at gC
   by_cases ho:(opensS L s (lv+1)).c≠0
   · rw[if_pos ho]at hx
     cases hx
     simp[Tryd.f82,eA,eM,cM,hw,eC,ho,gC,hnC]
     exact⟨_,rfl,ret_store h kAC hC (RE.nil _ _ _ _ _ _ _) _⟩
   · rw[if_neg ho]at hx
     obtain⟨hos,hlv⟩:=opens_ok ho hc
     have ho2:(opensS L s (lv+1)).c=0:=by rw[hos];exact hc
     rw[hos]at hx hC
     simp only[Option.map_eq_some_iff]at hx
     obtain⟨⟨e1x,s1x⟩,hx1,hx2⟩:=hx
     cases hx2
     obtain⟨kD,hD⟩:=hC.on kAC hc hlt
     obtain⟨o,H1,e1,cs,rfl,k1,h1,r1⟩:=ih.2.1 _ _ _ _ hx1 (by omega) hlv _ hD
     obtain⟨a,b,c,d,x,v,rfl,hv1,hv2⟩:=r1.six
     have n1:=k1.n
     simp at n1
     have kk:=kD.trans k1
     have g1:H1.get H.n = .row true 0 1 z6:=kk.at (Heap.get_push_self _ _) (by simp) (by omega)
     have gDT:(HC.set r (.row true 0 1 [.slice (some ⟨lid,0,none⟩) L.length L.length,.int .i64 (s.p+1),.int .i64 0,.int .i64 s.a])).get HA.n=_:=(gsn _ (by omega)).trans gCT
     have g1T:=k1.at gDT (by simp) (by omega)
     have hobj:=hC.obj
     have hn1:H.n<H1.n:=by omega
     have hn2:HA.n<H1.n:=by omega
     simp only[z6]at g1
     simp[Tryd.f82,eA,eM,cM,hw,eC,ho2,hc,hobj,hw2]
     refine region_plan (by exact pl_fact0) ?_
     simp[hw,gDT,e1,hv1,g1,g1T,hn1,hn2]
     exact⟨_,rfl,ret_one h kk h1 (RE.move (Same.refl (fun _=>False) _) (fun i hi _=>⟨by simp at hi;omega,fun h=>h⟩) _ _ r1) _ _ _ _ _ _⟩
 · rw[if_neg cM]at hx
   have cM':isP L s (b1 45)=false:=by simpa using cM
   simp only[b1]at cM'
   have kM2:=Same.none (X:=(·=r)) kTM
   have gM:HM.get H.n = .row true 0 1 z6:=kM2.at (Heap.get_push_self _ _) (by simp) (by omega)
   have hnM:H.n<HM.n:=by omega
   by_cases c2:tk.kind=2
   · rw[if_pos c2]at hx
     cases hx
     have hlt:s.p<L.length:=tok_ge_kind (by rw[htk];omega)
     have hw2:=hw2 hlt
     obtain⟨kD,hD⟩:=hM.on2 kM2 hlt
     have hobj:=hM.obj
     have d2:decide (tk.kind=2)=true:=by simpa using c2
     simp only[z6]at gM
     simp[Tryd.f82,eA,eM,cM',gMT,d2,hobj,hw2,gM,hnM,hr,show ¬HA.n=r by omega,show ¬H.n=r by omega]
     exact⟨_,rfl,ret_store h kD hD (RE.nil _ _ _ _ _ _ _) _⟩
   · rw[if_neg c2]at hx
     obtain⟨HU,eU,kU,hU⟩:=take_run hE hM tTrue
     simp only[tTrue]at eU
     by_cases cU:isP L s tTrue=true
     · rw[if_pos cU]at hx
       cases hx
       have hU:RD HU r lid L s.on:=by unfold takeS at hU;rw[if_pos cU]at hU;exact hU
       have kk:=kM2.trans kU
       have nU:=kU.n
       have gU:HU.get H.n = .row true 0 1 z6:=kk.at (Heap.get_push_self _ _) (by simp) (by omega)
       have gUT:=kU.at gMT (by simp) (by omega)
       have hnU:H.n<HU.n:=by omega
       simp only[tTrue]at cU
       simp only[z6]at gU
       simp[Tryd.f82,eA,eM,cM',gMT,c2,eU,cU,gU,gUT,hnU]
       exact⟨_,rfl,ret_store h kk hU (RE.nil _ _ _ _ _ _ _) _⟩
     rw[if_neg cU]at hx
     have hU:RD HU r lid L s:=by unfold takeS at hU;rw[if_neg cU]at hU;exact hU
     have cU':isP L s tTrue=false:=by simpa using cU
     have nU:=kU.n
     have gUT:=kU.at gMT (by simp) (by omega)
     simp only[tTrue]at cU'
     obtain⟨HV,eV,kV,hV⟩:=take_run hE hU tFalse
     simp only[tFalse]at eV
     have nV:=kV.n
     have kk:=(kM2.trans kU).trans kV
     have gV:HV.get H.n = .row true 0 1 z6:=kk.at (Heap.get_push_self _ _) (by simp) (by omega)
     have gVT:=kV.at gUT (by simp) (by omega)
     have hnV:H.n<HV.n:=by omega
     by_cases cV:isP L s tFalse=true
     · rw[if_pos cV]at hx
       cases hx
       have hV:RD HV r lid L s.on:=by unfold takeS at hV;rw[if_pos cV]at hV;exact hV
       simp only[tFalse]at cV
       simp only[z6]at gV
       simp[Tryd.f82,eA,eM,cM',gMT,c2,eU,cU',eV,cV,gV,gVT,hnV]
       exact⟨_,rfl,ret_store h kk hV (RE.nil _ _ _ _ _ _ _) _⟩
     rw[if_neg cV]at hx
     have hV:RD HV r lid L s:=by unfold takeS at hV;rw[if_neg cV]at hV;exact hV
     have cV':isP L s tFalse=false:=by simpa using cV
     simp only[tFalse]at cV'
     obtain⟨HX,eX,kX⟩:=is_run hE hV (b1 40)
     have hX:=hV.same kX
     have nX:=kX.n
     have kX2:=kk.trans (Same.none kX)
     have gX:HX.get H.n = .row true 0 1 z6:=kX2.at (Heap.get_push_self _ _) (by simp) (by omega)
     have gXT:=kX.at gVT (by simp) (fun h=>h)
     have hnX:H.n<HX.n:=by omega
     simp only[b1]at eX
     by_cases cX:isP L s (b1 40)=true
     · rw[if_pos cX]at hx
       have hc:=hop0 _ cX
       have hlt:=isP_lt cX
       obtain⟨HC,eC,kC,hC⟩:=opens_run hE hX (lv+1)
       have nC:=kC.n
       have kAC:=kX2.trans kC
       have hw2:=hw2 hlt
       have gC:HC.get H.n = .row true 0 1 z6:=kAC.at (Heap.get_push_self _ _) (by simp) (by omega)
       have hnC:H.n<HC.n:=by omega
       simp only[b1]at cX
       simp only[z6]at gC
       by_cases ho:(opensS L s (lv+1)).c≠0
       · rw[if_pos ho]at hx
         cases hx
         simp[Tryd.f82,eA,eM,cM',gMT,c2,eU,cU',eV,cV',eX,cX,hw,eC,ho,gC,hnC]
         exact⟨_,rfl,ret_store h kAC hC (RE.nil _ _ _ _ _ _ _) _⟩
       · rw[if_neg ho]at hx
         obtain⟨hos,hlv⟩:=opens_ok ho hc
         have ho2:(opensS L s (lv+1)).c=0:=by rw[hos];exact hc
         rw[hos]at hx hC
         simp only[Option.map_eq_some_iff]at hx
         obtain⟨⟨e1x,s1x⟩,hx1,hx2⟩:=hx
         cases hx2
         obtain⟨kD,hD⟩:=hC.on kAC hc hlt
         obtain⟨o,H1,e1,cs,rfl,k1,h1,r1⟩:=ih.1 _ _ _ _ _ hx1 (by omega) (by omega) (by omega) hlv _ hD
         obtain⟨a,b,c,d,x,v,rfl,hv1,hv2⟩:=r1.six
         have n1:=k1.n
         simp at n1
         have kk:=(kD.trans k1).then_push (.row true 0 1 [.int .i64 a,.int .i64 b,.int .i64 c,.int .i64 d,.string x,v])
         have h2:=h1.same (Same.push _ _ (.row true 0 1 [.int .i64 a,.int .i64 b,.int .i64 c,.int .i64 d,.string x,v]))
         obtain⟨H3,e3,k3,h3⟩:=must_run hE h2 (b1 41)
         have n3:=k3.n
         simp at n3
         have k4:=kk.trans k3
         have g3:H3.get H.n = .row true 0 1 z6:=k4.at (Heap.get_push_self _ _) (by simp) (by omega)
         have g3X:H3.get H1.n = .row true 0 1 [.int .i64 a,.int .i64 b,.int .i64 c,.int .i64 d,.string x,v]:=k3.at (Heap.get_push_self _ _) (by simp) (by omega)
         have hn3:H.n<H3.n:=by omega
         have hobj:=hC.obj
         simp only[z6]at g3
         simp only[b1]at e3
         have r3:RE H3 (fun i=>H.n+1≤i) _ _:=RE.move k3 (fun i hi hlt=>⟨hi,by omega⟩) _ _ (RE.move (Same.push (fun _=>False) H1 (.row true 0 1 [.int .i64 a,.int .i64 b,.int .i64 c,.int .i64 d,.string x,v])) (S':=fun i=>H.n+1≤i) (fun i hi hlt=>⟨by simp at hi;omega,fun h=>h⟩) _ _ r1)
         simp[Tryd.f82,eA,eM,cM',gMT,c2,eU,cU',eV,cV',eX,cX,hw,eC,ho2,hc,hobj,hw2,e1,hv1,e3,g3,g3X,hn3]
         exact⟨_,rfl,ret_store h k4 h3 r3 _⟩
     rw[if_neg cX]at hx
     have cX':isP L s (b1 40)=false:=by simpa using cX
     simp only[b1]at cX'
     by_cases c1:tk.kind=1
     · rw[if_pos c1]at hx
       have hlt:s.p<L.length:=tok_ge_kind (by rw[htk];omega)
       have hw2:=hw2 hlt
       obtain⟨kD,hD⟩:=hX.on2 kX2 hlt
       have hobj:=hX.obj
       have d1:decide (tk.kind=1)=true:=by simpa using c1
       have gDT:(HX.set r (.row true 0 1 [.slice (some ⟨lid,0,none⟩) L.length L.length,.int .i64 (s.p+1),.int .i64 s.c,.int .i64 s.a])).get HA.n=_:=(gsn _ (by omega)).trans gXT
       have nD:(HX.set r (.row true 0 1 [.slice (some ⟨lid,0,none⟩) L.length L.length,.int .i64 (s.p+1),.int .i64 s.c,.int .i64 s.a])).n=HX.n:=rfl
       generalize hHD:HX.set r (.row true 0 1 [.slice (some ⟨lid,0,none⟩) L.length L.length,.int .i64 (s.p+1),.int .i64 s.c,.int .i64 s.a])=HD at *
       obtain⟨HY,eY,kY⟩:=is_run hE hD (b1 91)
       have hY:=hD.same kY
       have nY:=kY.n
       have kY2:=kD.trans (Same.none kY)
       have gY:HY.get H.n = .row true 0 1 z6:=kY2.at (Heap.get_push_self _ _) (by simp) (by omega)
       have gYT:=kY.at gDT (by simp) (fun h=>h)
       have hnY:H.n<HY.n:=by omega
       simp only[b1]at eY
       simp only[z6]at gY
       by_cases cY:isP L s.on (b1 91)=false
       · rw[if_pos cY]at hx
         cases hx
         simp only[b1]at cY
         simp[Tryd.f82,eA,eM,cM',gMT,c2,eU,cU',eV,cV',eX,cX',gXT,d1,hobj,hw2,hHD,eY,cY,gY,gYT,hnY]
         exact⟨_,rfl,ret_store h kY2 hY (RE.nil _ _ _ _ _ _ _) _⟩
       · rw[if_neg cY]at hx
         have cY':isP L s.on (b1 91)=true:=by simpa using cY
         simp only[b1]at cY'
         simp only[Option.map_eq_some_iff]at hx
         obtain⟨⟨e1x,s1x⟩,hx1,hx2⟩:=hx
         cases hx2
         obtain⟨o,H1,e1,cs,rfl,k1,h1,r1⟩:=ih.2.2 _ _ _ _ hx1 hl0 hl24 _ hY
         obtain⟨a,b,c,d,x,v,rfl,hv1,hv2⟩:=r1.six
         have n1:=k1.n
         have kk:=kY2.trans k1
         have g1:H1.get H.n = .row true 0 1 z6:=kk.at (Heap.get_push_self _ _) (by simp) (by omega)
         have g1T:=k1.at gYT (by simp) (by omega)
         have hn1:H.n<H1.n:=by omega
         have hn2:HA.n<H1.n:=by omega
         simp only[z6]at g1
         simp[Tryd.f82,eA,eM,cM',gMT,c2,eU,cU',eV,cV',eX,cX',gXT,d1,hobj,hw2,hHD,eY,cY']
         refine region_plan (by exact pl_fact1) ?_
         simp[gYT,e1,hv1,g1,g1T,hn1,hn2]
         exact⟨_,rfl,ret_one h kk h1 (RE.move (Same.refl (fun _=>False) _) (fun i hi _=>⟨by omega,fun h=>h⟩) _ _ r1) _ _ _ _ _ _⟩
     · rw[if_neg c1]at hx
       cases hx
       obtain⟨HY,eY,kY,hY⟩:=fault_run hE hX 14
       have nY:=kY.n
       have kY2:=kX2.trans kY
       have gY:HY.get H.n = .row true 0 1 z6:=kY2.at (Heap.get_push_self _ _) (by simp) (by omega)
       have hnY:H.n<HY.n:=by omega
       simp only[z6]at gY
       simp[Tryd.f82,eA,eM,cM',gMT,c2,eU,cU',eV,cV',eX,cX',gXT,c1,eY,gY,hnY]
       exact⟨_,rfl,ret_store h kY2 hY (RE.nil _ _ _ _ _ _ _) _⟩
theorem x_all:∀ n,RowOK (E:=E) r lid L n∧FactOK (E:=E) r lid L n∧IndexOK (E:=E) r lid L n:=by
 intro n
 induction n using Nat.strongRecOn with
 | _ n ih =>
  cases n with
  | zero=>exact⟨fun _ _ _ _ _ h=>(by cases h),fun _ _ _ _ h=>(by cases h),fun _ _ _ _ h=>(by cases h)⟩
  | succ n=>exact⟨row_walk hE fun m hm=>⟨(ih m (by omega)).1,(ih m (by omega)).2.1⟩,fact_walk hE (ih n (by omega)),index_walk hE (ih n (by omega)).1⟩
end
end Go.Vm.Parse
namespace Go.Vm.Ex
open Go Go.Proofs Go.Vm.Parse
attribute [local simp] repCells_succ writeAt rd_Fr toList_beq gpe gpn spe gse gsn ne_r0 ne_l0 le_s0 ne_r1 ne_l1 lt_s1 le_s1 ne_r2 ne_l2 lt_s2 le_s2 ne_r3 ne_l3 lt_s3 le_s3 ne_r4 ne_l4 lt_s4 le_s4 ne_r5 ne_l5 lt_s5 le_s5 ne_r6 ne_l6 lt_s6 le_s6 ne_r7 ne_l7 lt_s7 le_s7
section
variable {E:Hooks} (hE:Plain E)
include hE
theorem k_tok (args:List Value)(H:Heap):(run Tryd.prog E).call 91 args H=callB Tryd.prog E Tryd.f91 args H:=call_B Tryd.func91 rfl (by decide +kernel) (hE.no _ rfl rfl) args H
theorem k_bad (args:List Value)(H:Heap):(run Tryd.prog E).call 43 args H=callB Tryd.prog E Tryd.f43 args H:=call_B Tryd.func43 rfl (by decide +kernel) (hE.no _ rfl rfl) args H
theorem k_is (args:List Value)(H:Heap):(run Tryd.prog E).call 106 args H=callB Tryd.prog E Tryd.f106 args H:=call_B Tryd.func106 rfl (by decide +kernel) (hE.no _ rfl rfl) args H
theorem k_op (args:List Value)(H:Heap):(run Tryd.prog E).call 92 args H=callB Tryd.prog E Tryd.f92 args H:=call_B Tryd.func92 rfl (by decide +kernel) (hE.no _ rfl rfl) args H
theorem k_fail (args:List Value)(H:Heap):(run Tryd.prog E).call 120 args H=callB Tryd.prog E Tryd.f120 args H:=call_B Tryd.func120 rfl (by decide +kernel) (hE.no _ rfl rfl) args H
theorem k_need (args:List Value)(H:Heap):(run Tryd.prog E).call 125 args H=callB Tryd.prog E Tryd.f125 args H:=call_B Tryd.func125 rfl (by decide +kernel) (hE.no _ rfl rfl) args H
theorem k_deeper (args:List Value)(H:Heap):(run Tryd.prog E).call 116 args H=callB Tryd.prog E Tryd.f116 args H:=call_B Tryd.func116 rfl (by decide +kernel) (hE.no _ rfl rfl) args H
theorem k_row (args:List Value)(H:Heap):(run Tryd.prog E).call 77 args H=callB Tryd.prog E Tryd.f77 args H:=call_B Tryd.func77 rfl (by decide +kernel) (hE.no _ rfl rfl) args H
theorem k_expr (args:List Value)(H:Heap):(run Tryd.prog E).call 42 args H=callB Tryd.prog E Tryd.f42 args H:=call_B Tryd.func42 rfl (by decide +kernel) (hE.no _ rfl rfl) args H
theorem k_conj (args:List Value)(H:Heap):(run Tryd.prog E).call 78 args H=callB Tryd.prog E Tryd.f78 args H:=call_B Tryd.func78 rfl (by decide +kernel) (hE.no _ rfl rfl) args H
theorem k_un (args:List Value)(H:Heap):(run Tryd.prog E).call 107 args H=callB Tryd.prog E Tryd.f107 args H:=call_B Tryd.func107 rfl (by decide +kernel) (hE.no _ rfl rfl) args H
theorem k_neg (args:List Value)(H:Heap):(run Tryd.prog E).call 93 args H=callB Tryd.prog E Tryd.f93 args H:=call_B Tryd.func93 rfl (by decide +kernel) (hE.no _ rfl rfl) args H
theorem k_rel (args:List Value)(H:Heap):(run Tryd.prog E).call 108 args H=callB Tryd.prog E Tryd.f108 args H:=call_B Tryd.func108 rfl (by decide +kernel) (hE.no _ rfl rfl) args H
theorem k_sum (args:List Value)(H:Heap):(run Tryd.prog E).call 117 args H=callB Tryd.prog E Tryd.f117 args H:=call_B Tryd.func117 rfl (by decide +kernel) (hE.no _ rfl rfl) args H
theorem k_term (args:List Value)(H:Heap):(run Tryd.prog E).call 121 args H=callB Tryd.prog E Tryd.f121 args H:=call_B Tryd.func121 rfl (by decide +kernel) (hE.no _ rfl rfl) args H
theorem k_fact (args:List Value)(H:Heap):(run Tryd.prog E).call 122 args H=callB Tryd.prog E Tryd.f122 args H:=call_B Tryd.func122 rfl (by decide +kernel) (hE.no _ rfl rfl) args H
theorem k_name (args:List Value)(H:Heap):(run Tryd.prog E).call 124 args H=callB Tryd.prog E Tryd.f124 args H:=call_B Tryd.func124 rfl (by decide +kernel) (hE.no _ rfl rfl) args H
theorem k_prim (args:List Value)(H:Heap):(run Tryd.prog E).call 123 args H=callB Tryd.prog E Tryd.f123 args H:=call_B Tryd.func123 rfl (by decide +kernel) (hE.no _ rfl rfl) args H
theorem k_Parse (args:List Value)(H:Heap):(run Tryd.prog E).call 13 args H=callB Tryd.prog E Tryd.f13 args H:=call_B Tryd.func13 rfl (by decide +kernel) (hE.no _ rfl rfl) args H
end
def prs (lid n:Nat)(s:PS)(lv:Int):List Value:=[.slice (some ⟨lid,0,none⟩) n n,.int .i64 s.p,.int .i64 lv,.int .i64 s.c,.int .i64 s.a]
structure RP (H:Heap)(r lid:Nat)(L:List Tk)(s:PS)(lv:Int):Prop where
 obj:H.get r = .row true 0 1 (prs lid L.length s lv)
 toks:∃ tl,H.get lid = .row true tl 4 (flatT L)
 small:L.length≤100000
 place:s.p≤L.length
 ne:lid≠r
theorem RP.lt {H:Heap}{r lid:Nat}{L:List Tk}{s:PS}{lv:Int}(h:RP H r lid L s lv):r<H.n:=Heap.lt_of_get h.obj (by simp)
theorem RP.lid_lt {H:Heap}{r lid:Nat}{L:List Tk}{s:PS}{lv:Int}(h:RP H r lid L s lv):lid<H.n:=by
 obtain⟨tl,h2⟩:=h.toks
 exact Heap.lt_of_get h2 (by simp)
theorem RP.keep {X:Nat→Prop}{H H':Heap}{r lid:Nat}{L:List Tk}{s:PS}{lv:Int}(h:RP H r lid L s lv)(k:Same X H H')(hr:¬X r)(hl:¬X lid):RP H' r lid L s lv:=by
 obtain⟨tl,h2⟩:=h.toks
 exact⟨k.at h.obj (by simp) hr,⟨tl,k.at h2 (by simp) hl⟩,h.small,h.place,h.ne⟩
theorem RP.same {H H':Heap}{r lid:Nat}{L:List Tk}{s:PS}{lv:Int}(h:RP H r lid L s lv)(k:Same (fun _=>False) H H'):RP H' r lid L s lv:=h.keep k (fun h=>h) (fun h=>h)
theorem RP.turn {H:Heap}{r lid:Nat}{L:List Tk}{s:PS}{lv:Int}(h:RP H r lid L s lv)(s':PS)(lv':Int)(hp:s'.p≤L.length):RP (H.set r (.row true 0 1 (prs lid L.length s' lv'))) r lid L s' lv':=by
 obtain⟨tl,h2⟩:=h.toks
 exact⟨Heap.get_set_self _ _ h.lt,⟨tl,by rw[Heap.get_set _ _ _ h.lt,if_neg h.ne];exact h2⟩,h.small,hp,h.ne⟩
theorem q_tok1:quiet Tryd.prog (drawN Tryd.f91 0)=true:=by decide +kernel
theorem q_tok3:quiet Tryd.prog (drawN Tryd.f91 1)=true:=by decide +kernel
def isT (t:Tk)(x:ByteArray):Bool:=decide ((t.kind=3∨t.kind=4)∧t.text=x)
theorem isT_P {L:List Tk}{s:PS}(hc:s.c=0)(x:ByteArray):isP L s x=isT (tok L s.p) x:=by unfold isP isT;simp[hc]
theorem isT_lt {L:List Tk}{p:Nat}{x:ByteArray}(h:isT (tok L p) x=true):p<L.length:=tok_ge_kind (by
 unfold isT at h
 simp only[decide_eq_true_eq]at h
 rcases h.1 with h | h<;>omega)
section
variable {E:Hooks} (hE:Plain E)
include hE
theorem is_run2 (t:Tk)(x:ByteArray)(H:Heap):(run Tryd.prog E).call 106 [t.v,.string x] H=some (.val (.bool (isT t x)),H.push (.row true 0 1 t.cells)):=by
 suffices key:Gives ((run Tryd.prog E).call 106 [t.v,.string x] H) fun o H'=>o = .val (.bool (isT t x))∧H'=H.push (.row true 0 1 t.cells) by
  obtain⟨o,H',e,rfl,rfl⟩:=key
  exact e
 rw[k_is hE,callB,bodyOf]
 unfold isT
 simp only[Tk.v,Tk.cells]
 by_cases hk:t.kind=3
 · simp[Tryd.f106,hk,Heap.get_push_self]
 · by_cases hk4:t.kind=4
   · simp[Tryd.f106,hk,hk4,Heap.get_push_self]
   · simp[Tryd.f106,hk,hk4,Heap.get_push_self]
section
variable {H:Heap} {r lid:Nat} {L:List Tk} {s:PS} {lv:Int} (h:RP H r lid L s lv)
include h
theorem tok_run:∃ H',(run Tryd.prog E).call 91 [.pointer (some ⟨r,0,none⟩)] H=some (.val (tok L s.p).v,H')∧Same (fun _=>False) H H':=by
 obtain⟨tl,ht⟩:=h.toks
 have hsm:=h.small
 have hpl:=h.place
 have hl:=h.lid_lt
 have hr:=h.lt
 have hobj:=h.obj
 simp only[prs]at hobj
 suffices key:Gives ((run Tryd.prog E).call 91 [.pointer (some ⟨r,0,none⟩)] H) fun o H'=>o = .val (tok L s.p).v∧Same (fun _=>False) H H' by
  obtain⟨o,H',e,rfl,k⟩:=key
  exact⟨H',e,k⟩
 rw[k_tok hE,callB,bodyOf]
 simp[Tryd.f91]
 refine region_quiet (by exact q_tok1) ?_
 rcases Nat.lt_or_ge s.p L.length with hp | hp
 · simp[hobj,hr,hl,show ¬(s.p:Int)<0 by omega,show ¬L.length≤s.p by omega]
   refine region_quiet (by exact q_tok3) ?_
   have hlen:=flatT_length L
   have hget:=flatT_get L s.p hp
   simp[hobj,hr,hl,ht,hp,hlen,hget,show s.p * 4+4≤4 * L.length by omega,tok_lt hp,Tk.v,Tk.cells,Heap.get_push_self]
   exact Same.push _ _ _
 · simp[hobj,hr,hl,show ¬(s.p:Int)<0 by omega,hp,tok_ge hp,endTk,Tk.v,Tk.cells,Heap.get_push_self]
   exact Same.push _ _ _
theorem bad_run2:(run Tryd.prog E).call 43 [.pointer (some ⟨r,0,none⟩)] H=some (.val (.bool (!decide (s.c=0))),H):=by
 have hobj:=h.obj
 simp only[prs]at hobj
 rw[k_bad hE,callB,bodyOf]
 simp[Tryd.f43,hobj]
theorem fail_run (c a:Int):∃ H',(run Tryd.prog E).call 120 [.pointer (some ⟨r,0,none⟩),.int .i64 c,.int .i64 a] H=some (.val (.tuple #[]),H')∧Same (·=r) H H'∧RP H' r lid L (if s.c=0 then { s with c:=c,a:=a }else s) lv:=by
 have hobj:=h.obj
 have e2:=bad_run2 hE h
 have hr:=h.lt
 by_cases hc:s.c=0
 · have h2:=h.turn { s with c:=c,a:=a } lv h.place
   rw[if_pos hc]
   simp only[prs]at hobj h2
   refine⟨_,?_,Same.set (X:=fun x=>x=r) H hr rfl _,h2⟩
   suffices key:Gives ((run Tryd.prog E).call 120 [.pointer (some ⟨r,0,none⟩),.int .i64 c,.int .i64 a] H) fun o H'=>o = .val (.tuple #[])∧H'=H.set r (.row true 0 1 [.slice (some ⟨lid,0,none⟩) L.length L.length,.int .i64 s.p,.int .i64 lv,.int .i64 c,.int .i64 a]) by
    obtain⟨o,H',e,rfl,rfl⟩:=key
    exact e
   rw[k_fail hE,callB,bodyOf]
   simp[Tryd.f120,e2,hc,hobj]
 · rw[if_neg hc]
   refine⟨H,?_,Same.refl _ _,h⟩
   suffices key:Gives ((run Tryd.prog E).call 120 [.pointer (some ⟨r,0,none⟩),.int .i64 c,.int .i64 a] H) fun o H'=>o = .val (.tuple #[])∧H'=H by
    obtain⟨o,H',e,rfl,rfl⟩:=key
    exact e
   rw[k_fail hE,callB,bodyOf]
   simp[Tryd.f120,e2,hc]
end
end
def RQ (H:Heap)(r lid:Nat)(L:List Tk)(s:PS)(lv:Int):Prop:=∃ s2,RP H r lid L s2 lv∧s2.c=s.c∧s2.a=s.a∧(s.c=0→s2=s)
theorem RP.q {H:Heap}{r lid:Nat}{L:List Tk}{s:PS}{lv:Int}(h:RP H r lid L s lv):RQ H r lid L s lv:=⟨s,h,rfl,rfl,fun _=>rfl⟩
theorem RQ.keep {X:Nat→Prop}{H H':Heap}{r lid:Nat}{L:List Tk}{s:PS}{lv:Int}(h:RQ H r lid L s lv)(k:Same X H H')(hr:¬X r)(hl:¬X lid):RQ H' r lid L s lv:=by
 obtain⟨s2,h1,h2⟩:=h
 exact⟨s2,h1.keep k hr hl,h2⟩
section
variable {E:Hooks} (hE:Plain E) {H:Heap} {r lid:Nat} {L:List Tk} {s:PS} {lv:Int}
include hE
theorem need_raw (h:RP H r lid L s lv)(x:ByteArray):∃ H',(run Tryd.prog E).call 125 [.pointer (some ⟨r,0,none⟩),.string x] H=some (.val (.tuple #[]),H')∧Same (·=r) H H' ∧
  RP H' r lid L (if isT (tok L s.p) x=true then { s with p:=s.p+1 }else if s.c=0 then { s with c:=14,a:=(tok L s.p).at_ }else s) lv:=by
 obtain⟨H1,e1,k1⟩:=tok_run hE h
 have h1:=h.same k1
 have e2:=is_run2 hE (tok L s.p) x H1
 have h2:=h1.same (Same.push (fun _=>False) _ (.row true 0 1 (tok L s.p).cells))
 have k2:Same (fun _=>False) H (H1.push (.row true 0 1 (tok L s.p).cells)):=k1.then_push _
 by_cases hi:isT (tok L s.p) x=true
 · have hlt:=isT_lt hi
   have h3:=h2.turn { s with p:=s.p+1 } lv (by show s.p+1≤_;omega)
   have hobj:=h2.obj
   have hr:=h2.lt
   have hsm:=h.small
   have hw:=wrap64 ((s.p:Int)+1) (by omega) (by omega)
   rw[if_pos hi]
   simp only[prs]at hobj h3
   refine⟨_,?_,(Same.none (X:=fun x=>x=r) k2).then_set (by simpa using hr) (.inl rfl) _,h3⟩
   suffices key:Gives ((run Tryd.prog E).call 125 [.pointer (some ⟨r,0,none⟩),.string x] H) fun o H'=>o = .val (.tuple #[])∧H'=(H1.push (.row true 0 1 (tok L s.p).cells)).set r (.row true 0 1 [.slice (some ⟨lid,0,none⟩) L.length L.length,.int .i64 ((s.p+1:Nat):Int),.int .i64 lv,.int .i64 s.c,.int .i64 s.a]) by
    obtain⟨o,H',e,rfl,rfl⟩:=key
    exact e
   rw[k_need hE,callB,bodyOf]
   simp only[hi]at e2
   generalize H1.push (.row true 0 1 (tok L s.p).cells)=H2 at *
   simp[Tryd.f125,e1,e2,hobj,hw]
 · rw[if_neg hi]
   obtain⟨H3,e3,k3⟩:=tok_run hE h2
   obtain⟨H4,e4,k4,h4⟩:=fail_run hE (h2.same k3) 14 (tok L s.p).at_
   refine⟨H4,?_,(Same.none (k2.then0 k3)).trans k4,h4⟩
   suffices key:Gives ((run Tryd.prog E).call 125 [.pointer (some ⟨r,0,none⟩),.string x] H) fun o H'=>o = .val (.tuple #[])∧H'=H4 by
    obtain⟨o,H',e,rfl,rfl⟩:=key
    exact e
   rw[k_need hE,callB,bodyOf]
   simp only[Bool.not_eq_true]at hi
   simp only[hi]at e2
   generalize H1.push (.row true 0 1 (tok L s.p).cells)=H2 at *
   generalize tok L s.p=tk at *
   simp only[Tk.v,Tk.cells]at *
   simp[Tryd.f125,e1,e2,e3,e4]
theorem need_run (h:RQ H r lid L s lv)(x:ByteArray):∃ H',(run Tryd.prog E).call 125 [.pointer (some ⟨r,0,none⟩),.string x] H=some (.val (.tuple #[]),H')∧Same (·=r) H H'∧RQ H' r lid L (mustS L s x) lv:=by
 obtain⟨s2,h1,hc,ha,hs⟩:=h
 obtain⟨H',e,k,h2⟩:=need_raw hE h1 x
 refine⟨H',e,k,?_⟩
 by_cases hc0:s.c=0
 · have e2:=hs hc0
   subst e2
   have:mustS L s2 x=(if isT (tok L s2.p) x=true then { s2 with p:=s2.p+1 }else if s2.c=0 then { s2 with c:=14,a:=(tok L s2.p).at_ }else s2):=by
    unfold mustS faultS
    rw[isT_P hc0]
   rw[this]
   exact h2.q
 · have hm:mustS L s x=s:=by
    unfold mustS faultS
    rw[if_neg (by unfold isP;simp[hc0]),if_neg hc0]
   rw[hm]
   have hc2:¬s2.c=0:=by rw[hc];exact hc0
   refine⟨_,h2,?_,?_,fun h=>absurd h hc0⟩
   · split
     · exact hc
     · exact hc
   · split
     · exact ha
     · exact ha
end
end Go.Vm.Ex
namespace Go.Vm
variable {P:Program} {E:Hooks}
def backQ (l:Nat)(I:Nat→List Value→Heap→Prop)(m:Nat)(Q:QA):QA:=fun e s H=>match e with
 | .goto i=>i=l∧s.ds=[]∧∃ m',m'<m∧I m' s.t H
 | e=>Q e s H
section
variable (l:Nat) (I:Nat→List Value→Heap→Prop) (m:Nat) (Q:QA)
@[simp] theorem backQ_goto (i:Nat)(s:St)(H:Heap):backQ l I m Q (.goto i) s H=(i=l∧s.ds=[]∧∃ m',m'<m∧I m' s.t H):=id rfl
@[simp] theorem backQ_ret (s:St)(H:Heap):backQ l I m Q .ret s H=Q .ret s H:=id rfl
end
theorem scope_back {b rest:Code}{l:Nat}(hf:findLabel b l=some rest){Q:QA}{I:Nat→List Value→Heap→Prop}
  (step:∀ m t H,I m t H→Ends ((run P E).code rest ⟨Fr t [],[]⟩ H) (backQ l I m Q)):∀ m t H,I m t H→Ends ((run P E).scope b rest ⟨t,[]⟩ H) Q:=by
 intro m
 induction m using Nat.strongRecOn with
 | _ m ih =>
  intro t H hI
  obtain⟨e,s,H',h1,h2⟩:=step m t H hI
  rw[Fr_nil]at h1
  rw[run_scope]
  unfold exScope
  rw[h1]
  cases e with
  | goto i =>
   rw[backQ_goto]at h2
   obtain⟨rfl,h3,m',h4,h5⟩:=h2
   simp only[hf]
   obtain⟨t',ds⟩:=s
   simp only at h3
   subst h3
   exact ih m' h4 t' H' h5
  | _=>exact⟨_,_,_,rfl,h2⟩
theorem ends_scope {c rest:Code}{l:Nat}(hf:findLabel c l=some rest){Q:QA}{I:Nat→List Value→Heap→Prop}
  (step:∀ m t H,I m t H→Ends ((run P E).code rest ⟨Fr t [],[]⟩ H) (backQ l I m Q)) (m0:Nat) {s:St} {H:Heap} (first:Ends ((run P E).code c s H) (backQ l I m0 Q)):Ends ((run P E).code (.scope c) s H) Q:=by
 rw[run_code]
 show Ends ((run P E).scope c c s H) Q
 rw[run_scope]
 unfold exScope
 obtain⟨e,s',H',h1,h2⟩:=first
 rw[h1]
 cases e with
 | goto i =>
  rw[backQ_goto]at h2
  obtain⟨rfl,h3,m',h4,h5⟩:=h2
  simp only[hf]
  obtain⟨t',ds⟩:=s'
  simp only at h3
  subst h3
  exact scope_back hf step m' t' H' h5
 | _=>exact⟨_,_,_,rfl,h2⟩
end Go.Vm
namespace Go.Vm.Ex
open Go Go.Proofs Go.Vm.Parse
attribute [local simp] repCells_succ writeAt rd_Fr toList_beq gpe gpn spe gse gsn ne_r0 ne_l0 le_s0 ne_r1 ne_l1 lt_s1 le_s1 ne_r2 ne_l2 lt_s2 le_s2 ne_r3 ne_l3 lt_s3 le_s3 ne_r4 ne_l4 lt_s4 le_s4 ne_r5 ne_l5 lt_s5 le_s5 ne_r6 ne_l6 lt_s6 le_s6 ne_r7 ne_l7 lt_s7 le_s7
def opS (t:Tk):List (ByteArray × Int)→Int
 | []=>0
 | x :: l=>if isT t x.1=true then x.2 else opS t l
def rowL (k:Int):List (ByteArray × Int):=(opsL.filter fun x=>decide (x.2.1=k)).map fun x=>(x.1,x.2.2)
theorem opFrom_row {t:Tk}(hk:t.kind=4∨t.kind=3)(k:Int):∀ l:List (ByteArray × Int × Int),opFrom k t.text l=opS t ((l.filter fun x=>decide (x.2.1=k)).map fun x=>(x.1,x.2.2))
 | []=>rfl
 | (x, r, o) :: l => by
  have ih:=opFrom_row hk k l
  simp only[opFrom,List.filter_cons]
  by_cases hr:r=k
  · have hT:isT t x=decide (x=t.text):=by
     unfold isT
     by_cases hx:x=t.text
     · simp[hx,hk.symm]
     · have hx':¬t.text=x:=fun h=>hx h.symm
       simp[hx,hx']
    simp only[hr,decide_true,if_true,List.map_cons,opS,hT,decide_eq_true_eq,and_true]
    split
    · rfl
    · exact ih
  · simp only[hr,decide_false,Bool.false_eq_true,if_false,and_false]
    exact ih
theorem opS_no {t:Tk}(hk:¬(t.kind=4∨t.kind=3)):∀ l,opS t l=0
 | []=>rfl
 | x :: l => by
  simp only[opS]
  rw[if_neg (by unfold isT;simp only[decide_eq_true_eq];exact fun h=>hk h.1.symm)]
  exact opS_no hk l
theorem opP_row {L:List Tk}{s:PS}(hc:s.c=0)(k:Int):opP L s k=opS (tok L s.p) (rowL k):=by
 unfold opP rowL
 by_cases hk:(tok L s.p).kind=4∨(tok L s.p).kind=3
 · rw[if_pos ⟨hc,hk⟩];exact opFrom_row hk k _
 · rw[if_neg (fun h=>hk h.2),opS_no hk]
section
variable {E:Hooks} (hE:Plain E)
include hE
theorem op_run2 (tk:Tk)(l:List (ByteArray × Int))(hl:l.length≤100){H:Heap}{sid oid t1 t2:Nat}(gs:H.get sid = .row true t1 1 (l.map fun x => .string x.1))(go:H.get oid = .row true t2 1 (l.map fun x => .int .i64 x.2)) :
  ∃ H',(run Tryd.prog E).call 92 [tk.v,.slice (some ⟨sid,0,none⟩) l.length l.length,.slice (some ⟨oid,0,none⟩) l.length l.length] H=some (.val (.int .i64 (opS tk l)),H')∧Same (fun _=>False) H H':=by
 suffices key:Gives ((run Tryd.prog E).call 92 [tk.v,.slice (some ⟨sid,0,none⟩) l.length l.length,.slice (some ⟨oid,0,none⟩) l.length l.length] H) fun o H'=>o = .val (.int .i64 (opS tk l))∧Same (fun _=>False) H H' by
  obtain⟨o,H',e,rfl,k⟩:=key
  exact⟨H',e,k⟩
 rw[k_op hE,callB,bodyOf]
 have hi:=is_run2 hE tk
 simp only[Tk.v,Tk.cells]at *
 simp[Tryd.f92]
 refine loop_wp (fun m t K=>∃ i:Nat,i+m=l.length∧rd t 11 = .int .i64 i∧Same (fun _=>False) (H.push (.row true 0 1 [.int .i64 tk.kind,.int .i64 tk.at_,.int .i64 tk.num,.string tk.text])) K∧opS tk l=opS tk (l.drop i)) l.length ?_ ?_
 · exact⟨0,by omega,by simp,Same.refl _ _,rfl⟩
 rintro m t K hk ⟨i,hm,g11,kS,ho⟩
 have ht:t.length=24:=hk.1.trans (by simp[len_Bs])
 have hh:=hk.all [1,2,3,9,10] (by decide +kernel)
 simp at hh
 obtain⟨u1,u2,u3,u9,u10⟩:=hh
 have hs1:=Heap.lt_of_get gs (by simp)
 have ho1:=Heap.lt_of_get go (by simp)
 have gb:K.get H.n = .row true 0 1 [.int .i64 tk.kind,.int .i64 tk.at_,.int .i64 tk.num,.string tk.text]:=kS.at (Heap.get_push_self _ _) (by simp) (fun h=>h)
 have gs':K.get sid = .row true t1 1 (l.map fun x => .string x.1):=kS.at (by rw[Heap.get_push,if_neg (by omega)];exact gs) (by simp) (fun h=>h)
 have go':K.get oid = .row true t2 1 (l.map fun x => .int .i64 x.2):=kS.at (by rw[Heap.get_push,if_neg (by omega)];exact go) (by simp) (fun h=>h)
 have hs2:=Heap.lt_of_get gs' (by simp)
 have ho2:=Heap.lt_of_get go' (by simp)
 have kk:Same (fun _=>False) H K:=(Same.push _ _ _).trans kS
 rcases Nat.lt_or_ge i l.length with hlt | hge
 · have hd:l.drop i=l[i] :: l.drop (i+1):=List.drop_eq_getElem_cons hlt
   rw[hd,opS]at ho
   have hw:=wrap64 ((i:Int)+1) (by omega) (by omega)
   have ei:=hi l[i].1 K
   by_cases hx:isT tk l[i].1=true
   · rw[if_pos hx]at ho
     simp only[hx]at ei
     simp[ht,u1,u2,u3,u9,u10,g11,hlt,gb,gs',go',hs2,ho2,ei,ho]
     exact kk.then_push _
   · rw[if_neg hx]at ho
     simp only[Bool.not_eq_true]at hx
     simp only[hx]at ei
     simp[ht,u1,u2,u3,u9,u10,g11,hlt,gb,gs',go',hs2,ho2,ei,hw]
     exact⟨m - 1,by omega,i+1,by omega,by simp[ht],kS.then_push _,ho⟩
 · have hd:l.drop i=[]:=List.drop_eq_nil_of_le hge
   rw[hd]at ho
   simp[ht,u1,u2,u3,u9,u10,g11,show ¬i<l.length by omega,ho,opS]
   exact kk
end
def Six (cs:List Value):Prop:=∃ a b c d x b1 n1 c1,cs=[.int .i64 a,.int .i64 b,.int .i64 c,.int .i64 d,.string x,.slice b1 n1 c1]
theorem six_z:Six z6:=⟨_,_,_,_,_,_,_,_,rfl⟩
theorem RE.shape {H:Heap}{S:Nat→Prop}{e:Ex}{cs:List Value}(h:RE H S e cs):Six cs:=by
 cases e
 simp only[RE]at h
 obtain⟨v,rfl,h⟩:=h
 rcases h with⟨rfl,_⟩ | ⟨id,tl,cs',rfl,_⟩<;>exact⟨_,_,_,_,_,_,_,_,rfl⟩
def RetX (H:Heap)(r lid:Nat)(L:List Tk)(e:Ex)(s:PS)(lv:Int)(o:Out)(H':Heap):Prop :=
 ∃ cs,o = .val (.agg ⟨cs⟩)∧Six cs∧Same (·=r) H H'∧RQ H' r lid L s lv∧(s.c=0→RE H' (fun i=>H.n≤i) e cs)
def Reads (E:Hooks)(L:List Tk)(f:FuncId)(cmd:Int→XC)(n:Nat):Prop:=∀ (H:Heap) (r lid:Nat) (s:PS) (lv:Int) (e:Ex) (s':PS),RP H r lid L s lv→s.c=0→0≤lv→lv≤24→xP L n (cmd lv) s=some (e,s') →
 Gives ((run Tryd.prog E).call f [.pointer (some ⟨r,0,none⟩)] H) (RetX H r lid L e s' lv)
theorem RE.up {K K':Heap}{n m:Nat}{X:Nat→Prop}{e:Ex}{cs:List Value}(h:RE K (fun i=>m≤i) e cs)(k:Same X K K')(hn:n≤m)(hx:∀ i,X i→i<m):RE K' (fun i=>n≤i) e cs :=
 RE.move k (fun i hi _=>⟨by omega,fun h=>by have:=hx i h;omega⟩) _ _ h
theorem pl_un:planOf Tryd.prog (drawN Tryd.f107 0)=some [(some (0,2)),(some (0,2)),(some (0,2)),none,none,none,none,none,none]:=by decide +kernel
section
variable {E:Hooks} (hE:Plain E)
include hE
theorem deeper_no {f:FuncId}{H:Heap}{r lid:Nat}{L:List Tk}{s:PS}{lv:Int}(h:RP H r lid L s lv)(hc:s.c=0)(hlv:24≤lv) :
  Gives ((run Tryd.prog E).call 116 [.pointer (some ⟨r,0,none⟩),.func (.func f) #[.pointer (some ⟨r,0,none⟩)] #[]] H) fun o H'=>o = .val (.agg ⟨z6⟩)∧Same (·=r) H H'∧RP H' r lid L { s with c:=15,a:=(tok L s.p).at_ } lv:=by
 have h0:=h.same (Same.push (fun _=>False) _ (.row true 0 1 z6))
 obtain⟨H1,e1,k1⟩:=tok_run hE h0
 obtain⟨H2,e2,k2,h2⟩:=fail_run hE (h0.same k1) 15 (tok L s.p).at_
 rw[if_pos hc]at h2
 have hobj:=h0.obj
 have hr:=h.lt
 have hl:=h.lid_lt
 have n1:=k1.n
 have n2:=k2.n
 simp at n1
 have kk:Same (·=r) (H.push (.row true 0 1 z6)) H2:=(Same.none k1).trans k2
 have g2:H2.get H.n = .row true 0 1 z6:=kk.at (Heap.get_push_self _ _) (by simp) (by omega)
 rw[k_deeper hE,callB,bodyOf]
 generalize tok L s.p=tk at *
 simp only[Tk.v,Tk.cells,prs,z6]at *
 simp[Tryd.f116,hobj,hlv,e1,e2,g2,show H.n<H2.n by omega]
 have k3:Same (fun i=>i=H.n) H2 (H2.set H.n (.row true 0 1 z6)):=Same.set (X:=fun i=>i=H.n) H2 (by omega) rfl _
 exact⟨((Same.push _ _ _).trans kk).then k3 (fun i hi => .inr (by omega)),h2.keep k3 (by omega) (by omega)⟩
theorem deeper_run {f:FuncId}{cmd:Int→XC}{n:Nat}{H:Heap}{r lid:Nat}{L:List Tk}{s s':PS}{lv:Int}{e:Ex}(hf:Reads E L f cmd n)(h:RP H r lid L s lv)(hc:s.c=0)(h0l:0≤lv)(hlv:lv<24)(hp:s.p<L.length)
  (hx:xP L n (cmd (lv+1)) s.on=some (e,s')) :
  Gives ((run Tryd.prog E).call 116 [.pointer (some ⟨r,0,none⟩),.func (.func f) #[.pointer (some ⟨r,0,none⟩)] #[]] H) (RetX H r lid L e s' lv):=by
 have h0:=h.same (Same.push (fun _=>False) _ (.row true 0 1 z6))
 have hobj:=h0.obj
 have hr:=h.lt
 have hl:=h.lid_lt
 have hsm:=h.small
 have h1:=h0.turn s.on lv (by show s.p+1≤_;omega)
 have h2:=h1.turn s.on (lv+1) (by show s.p+1≤_;omega)
 rw[Heap.set_set]at h2
 have hs:Same (·=r) (H.push (.row true 0 1 z6)) _:=Same.set (X:=(·=r)) (H.push (.row true 0 1 z6)) h0.lt rfl (.row true 0 1 (prs lid L.length s.on (lv+1)))
 obtain⟨o,H4,e4,cs,rfl,⟨a,b,c,d,x,b1,n1,c1,rfl⟩,k4,⟨s2,h4,hc2,ha2,hs2⟩,r4⟩:=hf _ r lid s.on (lv+1) e s' h2 hc (by omega) (by omega) hx
 have kk:Same (·=r) (H.push (.row true 0 1 z6)) H4:=hs.trans k4
 have n4:=kk.n
 simp at n4
 have g4:H4.get H.n = .row true 0 1 z6:=kk.at (Heap.get_push_self _ _) (by simp) (by omega)
 have k5:Same (fun i=>i=H.n) H4 (H4.set H.n (.row true 0 1 [.int .i64 a,.int .i64 b,.int .i64 c,.int .i64 d,.string x,.slice b1 n1 c1])):=Same.set (X:=fun i=>i=H.n) H4 (by omega) rfl _
 have h5:=h4.keep k5 (by omega) (by omega)
 have hobj5:=h5.obj
 have h6:=h5.turn s2 lv h5.place
 have k6:Same (·=r) _ _:=Same.set (X:=(·=r)) (H4.set H.n (.row true 0 1 [.int .i64 a,.int .i64 b,.int .i64 c,.int .i64 d,.string x,.slice b1 n1 c1])) h5.lt rfl (.row true 0 1 (prs lid L.length s2 lv))
 have g6:((H4.set H.n (.row true 0 1 [.int .i64 a,.int .i64 b,.int .i64 c,.int .i64 d,.string x,.slice b1 n1 c1])).set r (.row true 0 1 (prs lid L.length s2 lv))).get H.n = .row true 0 1 [.int .i64 a,.int .i64 b,.int .i64 c,.int .i64 d,.string x,.slice b1 n1 c1] :=
  k6.at (Heap.get_set_self _ _ (by omega)) (by simp) (by omega)
 have n5:(H4.set H.n (.row true 0 1 [.int .i64 a,.int .i64 b,.int .i64 c,.int .i64 d,.string x,.slice b1 n1 c1])).n=H4.n:=rfl
 have n6:((H4.set H.n (.row true 0 1 [.int .i64 a,.int .i64 b,.int .i64 c,.int .i64 d,.string x,.slice b1 n1 c1])).set r (.row true 0 1 (prs lid L.length s2 lv))).n=H4.n:=rfl
 have k7:Same (fun i=>i=H.n) _ _:=Same.set (X:=fun i=>i=H.n) ((H4.set H.n (.row true 0 1 [.int .i64 a,.int .i64 b,.int .i64 c,.int .i64 d,.string x,.slice b1 n1 c1])).set r (.row true 0 1 (prs lid L.length s2 lv))) (by rw[n6];omega) rfl (.row true 0 1 [.int .i64 a,.int .i64 b,.int .i64 c,.int .i64 d,.string x,.slice b1 n1 c1])
 have h7:=h6.keep k7 (by omega) (by omega)
 have hw1:=wrap64 ((s.p:Int)+1) (by omega) (by omega)
 have hw2:=wrap64 (lv+1) (by omega) (by omega)
 have hw3:=wrap64 lv (by omega) (by omega)
 rw[k_deeper hE,callB,bodyOf]
 have fin:RetX H r lid L e s' lv (.val (.agg ⟨[.int .i64 a,.int .i64 b,.int .i64 c,.int .i64 d,.string x,.slice b1 n1 c1]⟩)) (((H4.set H.n (.row true 0 1 [.int .i64 a,.int .i64 b,.int .i64 c,.int .i64 d,.string x,.slice b1 n1 c1])).set r (.row true 0 1 (prs lid L.length s2 lv))).set H.n (.row true 0 1 [.int .i64 a,.int .i64 b,.int .i64 c,.int .i64 d,.string x,.slice b1 n1 c1])):=by
  refine⟨_,rfl,⟨_,_,_,_,_,_,_,_,rfl⟩,?_,⟨s2,h7,hc2,ha2,hs2⟩,fun h => ?_⟩
  · exact ((((Same.push _ _ _).trans kk).then k5 (fun i hi => .inr (by omega))).trans k6).then k7 (fun i hi => .inr (by omega))
  · have hX:Same (fun i=>i=H.n∨i=r) H4 _:=((k5.mono fun i hi => .inl hi).trans (k6.mono fun i hi => .inr hi)).trans (k7.mono fun i hi => .inl hi)
    exact RE.up (r4 h) hX (by simp) (fun i hi=>by simp;omega)
 simp only[prs,z6,PS.on]at *
 simp[Tryd.f116,hobj,show ¬24≤lv by omega,hr,hw1,hw2,-Int.add_sub_cancel,hc]
 simp only[hc,Int.natCast_add,Int.natCast_one]at e4
 simp[hobj5,e4,g4,g6,hw3,show H.n<H4.n by omega,show r<H4.n by omega,show ¬r=H.n by omega,show ¬H.n=r by omega]
 exact fin
theorem un_core {f:FuncId}{H:Heap}{r lid:Nat}{L:List Tk}{s s':PS}{lv:Int}{e0 e:Ex}(k:Int)(h:RP H r lid L s lv)
  (hd:∀ K,RP K r lid L s lv→Gives ((run Tryd.prog E).call 116 [.pointer (some ⟨r,0,none⟩),.func (.func f) #[.pointer (some ⟨r,0,none⟩)] #[]] K) (RetX K r lid L e0 s' lv))
  (he:s'.c=0→e = .mk 5 (tok L s.p).at_ 0 k ByteArray.empty [e0]) :
  Gives ((run Tryd.prog E).call 107 [.pointer (some ⟨r,0,none⟩),.int .i64 k,.func (.func f) #[.pointer (some ⟨r,0,none⟩)] #[]] H) (RetX H r lid L e s' lv):=by
 have h0:=h.same (Same.push (fun _=>False) _ (.row true 0 1 z6))
 obtain⟨H1,e1,k1⟩:=tok_run hE h0
 have h1:=h0.same k1
 have n1:=k1.n
 simp at n1
 have h2:=h1.same (Same.push (fun _=>False) _ (.row true 0 1 (tok L s.p).cells))
 obtain⟨o,H4,e4,cs,rfl,⟨a,b,c,d,x,b1,m1,c1,rfl⟩,k4,q4,r4⟩:=hd _ h2
 have n4:=k4.n
 simp at n4
 have hr:=h.lt
 have hl:=h.lid_lt
 have kA:Same (fun _=>False) (H.push (.row true 0 1 z6)) (H1.push (.row true 0 1 (tok L s.p).cells)):=k1.then_push _
 have kk:Same (·=r) (H.push (.row true 0 1 z6)) H4:=(Same.none kA).trans k4
 have g4:H4.get H.n = .row true 0 1 z6:=kk.at (Heap.get_push_self _ _) (by simp) (by omega)
 have gt2:(H1.push (.row true 0 1 (tok L s.p).cells)).get H1.n = .row true 0 1 (tok L s.p).cells:=Heap.get_push_self _ _
 have gt4:H4.get H1.n = .row true 0 1 (tok L s.p).cells:=k4.at gt2 (by simp) (by omega)
 have k5:Same (fun _=>False) H4 (H4.push (.row true 0 6 [.int .i64 a,.int .i64 b,.int .i64 c,.int .i64 d,.string x,.slice b1 m1 c1])):=Same.push _ _ _
 have k6:Same (fun i=>i=H.n) _ _:=Same.set (X:=fun i=>i=H.n) (H4.push (.row true 0 6 [.int .i64 a,.int .i64 b,.int .i64 c,.int .i64 d,.string x,.slice b1 m1 c1])) (by simp;omega) rfl (.row true 0 1 [.int .i64 5,.int .i64 (tok L s.p).at_,.int .i64 0,.int .i64 k,.string ByteArray.empty,.slice (some ⟨H4.n,0,none⟩) 1 1])
 have fin:RetX H r lid L e s' lv (.val (.agg ⟨[.int .i64 5,.int .i64 (tok L s.p).at_,.int .i64 0,.int .i64 k,.string ByteArray.empty,.slice (some ⟨H4.n,0,none⟩) 1 1]⟩)) ((H4.push (.row true 0 6 [.int .i64 a,.int .i64 b,.int .i64 c,.int .i64 d,.string x,.slice b1 m1 c1])).set H.n (.row true 0 1 [.int .i64 5,.int .i64 (tok L s.p).at_,.int .i64 0,.int .i64 k,.string ByteArray.empty,.slice (some ⟨H4.n,0,none⟩) 1 1])):=by
  refine⟨_,rfl,⟨_,_,_,_,_,_,_,_,rfl⟩,?_,(q4.keep k5 (fun h=>h) (fun h=>h)).keep k6 (by omega) (by omega),fun hc => ?_⟩
  · exact (((Same.push _ _ _).trans kk).trans (Same.none k5)).then k6 (fun i hi => .inr (by omega))
  · rw[he hc]
    have r5:=RE.up (n:=H.n+1) (r4 hc) k5 (by simp;omega) (fun i hi=>hi.elim)
    have r6:=RE.parts 5 (tok L s.p).at_ 0 k ByteArray.empty (S:=fun i=>H.n+1≤i) (id:=H4.n) (by omega) (Heap.get_push_self _ _) (REs.one r5)
    exact RE.up r6 k6 (by omega) (fun i hi=>by omega)
 rw[k_un hE,callB,bodyOf]
 generalize tok L s.p=tk at *
 simp only[Tk.v,Tk.cells,z6]at *
 simp[Tryd.f107,e1]
 refine region_plan (by exact pl_un) ?_
 simp[e4,g4,gt2,gt4,show H.n<H4.n by omega,show H1.n<H4.n by omega,show ¬H.n=H4.n by omega]
 exact fin
end
end Go.Vm.Ex
namespace Go.Vm.Parse
open Go Go.Proofs
theorem takeS_c (L:List Tk)(s:PS)(x:ByteArray):(takeS L s x).c=s.c∧s.p≤(takeS L s x).p:=by
 unfold takeS
 split<;>simp
structure PS.le (s s':PS):Prop where
 place:s.p≤s'.p
 code:s'.c=0→s.c=0
theorem PS.le_refl (s:PS):s.le s:=⟨Nat.le_refl _,fun h=>h⟩
theorem PS.le.le_trans {a b c:PS}(h:a.le b)(k:b.le c):a.le c:=⟨Nat.le_trans h.place k.place,fun e=>h.code (k.code e)⟩
theorem PS.le_on (s:PS):s.le s.on:=⟨Nat.le_succ _,fun h=>h⟩
theorem faultS_le (L:List Tk)(s:PS){c:Int}(hc:c≠0):s.le (faultS L s c)∧(faultS L s c).c≠0:=by
 unfold faultS
 split
 · exact⟨⟨Nat.le_refl _,fun h=>absurd h hc⟩,hc⟩
 · rename_i h;exact⟨PS.le_refl _,h⟩
theorem mustS_le (L:List Tk)(s:PS)(x:ByteArray):s.le (mustS L s x):=by
 unfold mustS
 split
 · exact PS.le_on s
 · exact (faultS_le L s (by omega)).1
theorem opensS_le (L:List Tk)(s:PS)(lv:Int):s.le (opensS L s lv):=by
 unfold opensS
 split
 · exact (faultS_le L s (by omega)).1
 · exact PS.le_refl _
def XC.isLoop:XC→Bool
 | .loop .. => true
 | _=>false
theorem x_le (L:List Tk):∀ n cmd s e s',xP L n cmd s=some (e,s')→s.le s'∧(cmd.isLoop=false→s'.c=0→s.p<s'.p):=by
 intro n
 induction n with
 | zero=>intro cmd s e s' h;cases h
 | succ n ih =>
  intro cmd s e s' h
  have st:∀ {a b:PS},a.on.le b→a.p<b.p:=fun h=>Nat.lt_of_lt_of_le (Nat.lt_succ_self _) h.1
  have op:∀ {lv:Int},¬(opensS L s lv).c≠0→(opensS L s lv).p=s.p∧(opensS L s lv).c=0:=fun {lv} h=>by
   unfold opensS at *
   split at h
   · rename_i hl;exact absurd (faultS_le L s (by omega)).2 h
   · rename_i hl;rw[if_neg hl];exact⟨rfl,by simpa using h⟩
  cases cmd with
  | row k lv =>
   rw[xP]at h
   split at h
   · rename_i hc;cases h;exact⟨PS.le_refl _,fun _ h=>absurd h hc⟩
   · split at h
     · have:=ih _ _ _ _ h;exact⟨this.1,fun _=>this.2 rfl⟩
     · split at h
       · split at h
         · have:=ih _ _ _ _ h;exact⟨this.1,fun _=>this.2 rfl⟩
         · split at h
           · rename_i ho;cases h;exact⟨opensS_le _ _ _,fun _ h=>absurd h ho⟩
           · rename_i ho
             simp only[Option.map_eq_some_iff]at h
             obtain⟨⟨e1,s1⟩,h1,h2⟩:=h
             cases h2
             have:=(ih _ _ _ _ h1).1
             have h3:=(op ho).1
             exact⟨(opensS_le _ _ _).le_trans ((PS.le_on _).le_trans this),fun _ _=>h3 ▸ st this⟩
       · simp only[Option.bind_eq_some_iff]at h
         obtain⟨⟨e1,s1⟩,h1,h2⟩:=h
         have a:=ih _ _ _ _ h1
         have b:=ih _ _ _ _ h2
         exact⟨a.1.le_trans b.1,fun _ hc=>Nat.lt_of_lt_of_le (a.2 rfl (b.1.2 hc)) b.1.1⟩
  | loop k lv x =>
   refine⟨?_,fun h=>by cases h⟩
   rw[xP]at h
   split at h
   · cases h;exact PS.le_refl _
   · simp only[Option.bind_eq_some_iff]at h
     obtain⟨⟨e1,s1⟩,h1,h2⟩:=h
     have a:=(PS.le_on s).le_trans (ih _ _ _ _ h1).1
     split at h2
     · cases h2;exact a
     · exact a.le_trans (ih _ _ _ _ h2).1
  | fact lv =>
   rw[xP]at h
   split at h
   · split at h
     · rename_i ho;cases h;exact⟨opensS_le _ _ _,fun _ h=>absurd h ho⟩
     · rename_i ho
       simp only[Option.map_eq_some_iff]at h
       obtain⟨⟨e1,s1⟩,h1,h2⟩:=h
       cases h2
       have:=(ih _ _ _ _ h1).1
       have h3:=(op ho).1
       exact⟨(opensS_le _ _ _).le_trans ((PS.le_on _).le_trans this),fun _ _=>h3 ▸ st this⟩
   · split at h
     · cases h;exact⟨PS.le_on s,fun _ _=>Nat.lt_succ_self _⟩
     · split at h
       · cases h;exact⟨PS.le_on s,fun _ _=>Nat.lt_succ_self _⟩
       · split at h
         · cases h;exact⟨PS.le_on s,fun _ _=>Nat.lt_succ_self _⟩
         · split at h
           · split at h
             · rename_i ho;cases h;exact⟨opensS_le _ _ _,fun _ h=>absurd h ho⟩
             · rename_i ho
               simp only[Option.map_eq_some_iff]at h
               obtain⟨⟨e1,s1⟩,h1,h2⟩:=h
               cases h2
               have:=(ih _ _ _ _ h1).1
               have h3:=(op ho).1
               have h4:=mustS_le L s1 (b1 41)
               exact⟨(opensS_le _ _ _).le_trans ((PS.le_on _).le_trans (this.le_trans h4)),fun _ _=>h3 ▸ st (this.le_trans h4)⟩
           · split at h
             · split at h
               · cases h;exact⟨PS.le_on s,fun _ _=>Nat.lt_succ_self _⟩
               · simp only[Option.map_eq_some_iff]at h
                 obtain⟨⟨e1,s1⟩,h1,h2⟩:=h
                 cases h2
                 have:=(ih _ _ _ _ h1).1
                 exact⟨(PS.le_on s).le_trans this,fun _ _=>st this⟩
             · cases h
               have:=faultS_le L s (c:=14) (by omega)
               exact⟨this.1,fun _ h=>absurd h this.2⟩
  | index lv =>
   rw[xP]at h
   split at h
   · cases h
     have:=faultS_le L s (c:=14) (by omega)
     exact⟨this.1,fun _ h=>absurd h this.2⟩
   · split at h
     · cases h
       have:=faultS_le L (opensS L s (lv+1)) (c:=14) (by omega)
       exact⟨(opensS_le _ _ _).le_trans this.1,fun _ h=>absurd h this.2⟩
     · rename_i ho
       simp only[Option.map_eq_some_iff]at h
       obtain⟨⟨e1,s1⟩,h1,h2⟩:=h
       cases h2
       have:=(ih _ _ _ _ h1).1
       have h3:=(op ho).1
       have h4:=mustS_le L s1 (b1 93)
       exact⟨(opensS_le _ _ _).le_trans ((PS.le_on _).le_trans (this.le_trans h4)),fun _ _=>h3 ▸ st (this.le_trans h4)⟩
end Go.Vm.Parse
namespace Go.Vm
def Tot {α:Type}(f:Nat→Option α):Prop:=∃ m r,∀ n,m≤n→f n=some r
theorem Tot.pure {α:Type}(r:α):Tot fun _=>some r:=⟨0,r,fun _ _=>rfl⟩
theorem Tot.succ {α:Type}{f g:Nat→Option α}(h:Tot g)(e:∀ n,f (n+1)=g n):Tot f:=by
 obtain⟨m,r,h⟩:=h
 refine⟨m+1,r,fun n hn => ?_⟩
 obtain⟨k,rfl⟩:∃ k,n=k+1:=⟨n - 1,by omega⟩
 rw[e k];exact h k (by omega)
theorem Tot.bind {α β:Type}{f:Nat→Option α}{g:α→Nat→Option β}(h:Tot f)(k:∀ n r,f n=some r→Tot (g r)):Tot fun n=>(f n).bind fun r=>g r n:=by
 obtain⟨m,r,h⟩:=h
 obtain⟨m2,r2,h2⟩:=k m r (h m (Nat.le_refl m))
 exact⟨max m m2,r2,fun n hn=>by show (f n).bind _=_;rw[h n (by omega)];exact h2 n (by omega)⟩
theorem Tot.map {α β:Type}{f:Nat→Option α}(h:Tot f)(g:α→β):Tot fun n=>(f n).map g:=by
 obtain⟨m,r,h⟩:=h
 exact⟨m,g r,fun n hn=>by show (f n).map g=_;rw[h n hn];rfl⟩
theorem Tot.ite {α:Type}{c:Prop} [Decidable c] {f g:Nat→Option α}(hf:c→Tot f)(hg:¬c→Tot g):Tot fun n=>if c then f n else g n:=by
 by_cases h:c
 · obtain⟨m,r,k⟩:=hf h;exact⟨m,r,fun n hn=>(if_pos h).trans (k n hn)⟩
 · obtain⟨m,r,k⟩:=hg h;exact⟨m,r,fun n hn=>(if_neg h).trans (k n hn)⟩
theorem Tot.some {α:Type}{f:Nat→Option α}(h:Tot f):∃ n r,f n=some r:=let ⟨m,r,h⟩:=h;⟨m,r,h m (Nat.le_refl m)⟩
end Go.Vm
namespace Go.Vm.Parse
open Go Go.Proofs
theorem opP_lt {L:List Tk}{s:PS}{k:Int}(h:opP L s k≠0):s.c=0∧s.p<L.length:=by
 unfold opP at h
 split at h
 · rename_i hc;exact⟨hc.1,tok_ge_kind (by rcases hc.2 with h | h<;>omega)⟩
 · exact absurd rfl h
theorem opensS_p (L:List Tk)(s:PS)(lv:Int):(opensS L s lv).p=s.p:=by
 unfold opensS faultS
 split
 · split<;>rfl
 · rfl
def XC.ok:XC→Prop
 | .row k _=>1≤k∧k≤7
 | .loop k _ _=>1≤k∧k≤6∧k≠3
 | _=>True
theorem x_tot (L:List Tk):∀ M s,L.length - s.p≤M→∀ cmd:XC,cmd.ok→Tot fun n=>xP L n cmd s:=by
 intro M
 induction M using Nat.strongRecOn with
 | _ M ih =>
 intro s hM
 have ih':∀ s',s.p<L.length→s.p<s'.p→∀ cmd:XC,cmd.ok→Tot fun n=>xP L n cmd s':=fun s' h1 h2 cmd hc=>ih (L.length - s'.p) (by omega) s' (Nat.le_refl _) cmd hc
 have on:∀ lv,(opensS L s lv).on.p=s.p+1:=fun lv=>by show (opensS L s lv).p+1=_;rw[opensS_p]
 have tFact:∀ lv,Tot fun n=>xP L n (.fact lv) s:=fun lv=>by
  refine Tot.succ ?_ (fun n=>by rw[xP])
  refine Tot.ite (fun h => ?_) (fun _ => ?_)
  · refine Tot.ite (fun _=>Tot.pure _) (fun _ => ?_)
    exact (ih' _ (isP_lt h) (by rw[on];omega) (.fact (lv+1)) trivial).map _
  refine Tot.ite (fun h=>Tot.pure _) (fun _ => ?_)
  refine Tot.ite (fun h=>Tot.pure _) (fun _ => ?_)
  refine Tot.ite (fun h=>Tot.pure _) (fun _ => ?_)
  refine Tot.ite (fun h => ?_) (fun _ => ?_)
  · refine Tot.ite (fun _=>Tot.pure _) (fun _ => ?_)
    exact (ih' _ (isP_lt h) (by rw[on];omega) (.row 1 (lv+1)) ⟨by omega,by omega⟩).map _
  refine Tot.ite (fun h => ?_) (fun _=>Tot.pure _)
  refine Tot.ite (fun _=>Tot.pure _) (fun _ => ?_)
  exact (ih' s.on (tok_ge_kind (by omega)) (Nat.lt_succ_self _) (.index lv) trivial).map _
 have tIndex:∀ lv,Tot fun n=>xP L n (.index lv) s:=fun lv=>by
  refine Tot.succ ?_ (fun n=>by rw[xP])
  refine Tot.ite (fun h=>Tot.pure _) (fun h => ?_)
  refine Tot.ite (fun _=>Tot.pure _) (fun _ => ?_)
  exact (ih' _ (isP_lt (x:=b1 91) (by simpa using h)) (by rw[on];omega) (.row 1 (lv+1)) ⟨by omega,by omega⟩).map _
 have tLoop:∀ k lv x,(1≤k∧k≤6∧k≠3)→Tot fun n=>xP L n (.loop k lv x) s:=fun k lv x hk=>by
  refine Tot.succ ?_ (fun n=>by rw[xP])
  refine Tot.ite (fun h=>Tot.pure _) (fun h => ?_)
  have hl:=(opP_lt h).2
  refine (ih' s.on hl (Nat.lt_succ_self _) (.row (k+1) lv) ⟨by omega,by omega⟩).bind fun n q hq => ?_
  refine Tot.ite (fun h=>Tot.pure _) (fun _ => ?_)
  have:=(x_le L _ _ _ _ _ hq).1.place
  exact ih' q.2 hl (Nat.lt_of_lt_of_le (Nat.lt_succ_self s.p) this) (.loop k lv _) hk
 have tLow:∀ k lv,(1≤k∧k≤6∧k≠3)→(Tot fun n=>xP L n (.row (k+1) lv) s)→Tot fun n=>xP L n (.row k lv) s:=fun k lv hk hr=>by
  refine Tot.succ ?_ (fun n=>by rw[xP])
  refine Tot.ite (fun h=>Tot.pure _) (fun h => ?_)
  refine Tot.ite (fun h=>absurd h (by omega)) (fun _ => ?_)
  refine Tot.ite (fun h=>absurd h (by omega)) (fun _ => ?_)
  refine hr.bind fun n q hq => ?_
  by_cases ho:opP L q.2 k=0
  · exact Tot.succ (Tot.pure _) (fun n=>by rw[xP,if_pos ho])
  · have h1:=opP_lt ho
    have h2:=x_le L _ _ _ _ _ hq
    exact ih' q.2 (Nat.lt_of_le_of_lt h2.1.place h1.2) (h2.2 rfl h1.1) (.loop k lv _) hk
 have t7:∀ lv,Tot fun n=>xP L n (.row 7 lv) s:=fun lv=>by
  refine Tot.succ ?_ (fun n=>by rw[xP])
  refine Tot.ite (fun h=>Tot.pure _) (fun h => ?_)
  exact Tot.ite (fun h=>tFact lv) (fun h=>absurd rfl h)
 have t6:∀ lv,Tot fun n=>xP L n (.row 6 lv) s:=fun lv=>tLow 6 lv (by omega) (t7 lv)
 have t5:∀ lv,Tot fun n=>xP L n (.row 5 lv) s:=fun lv=>tLow 5 lv (by omega) (t6 lv)
 have t4:∀ lv,Tot fun n=>xP L n (.row 4 lv) s:=fun lv=>tLow 4 lv (by omega) (t5 lv)
 have t3:∀ lv,Tot fun n=>xP L n (.row 3 lv) s:=fun lv=>by
  refine Tot.succ ?_ (fun n=>by rw[xP])
  refine Tot.ite (fun h=>Tot.pure _) (fun h => ?_)
  refine Tot.ite (fun h=>absurd h (by omega)) (fun _ => ?_)
  refine Tot.ite (fun _ => ?_) (fun h=>absurd rfl h)
  refine Tot.ite (fun _=>t4 lv) (fun h => ?_)
  refine Tot.ite (fun _=>Tot.pure _) (fun _ => ?_)
  exact (ih' _ (isP_lt (x:=tNot) (by simpa using h)) (by rw[on];omega) (.row 3 (lv+1)) ⟨by omega,by omega⟩).map _
 have t2:∀ lv,Tot fun n=>xP L n (.row 2 lv) s:=fun lv=>tLow 2 lv (by omega) (t3 lv)
 have t1:∀ lv,Tot fun n=>xP L n (.row 1 lv) s:=fun lv=>tLow 1 lv (by omega) (t2 lv)
 intro cmd hc
 cases cmd with
 | row k lv =>
  obtain⟨h1,h2⟩:=hc
  rcases (show k=1∨k=2∨k=3∨k=4∨k=5∨k=6∨k=7 by omega)with rfl | rfl | rfl | rfl | rfl | rfl | rfl
  · exact t1 lv
  · exact t2 lv
  · exact t3 lv
  · exact t4 lv
  · exact t5 lv
  · exact t6 lv
  · exact t7 lv
 | loop k lv x=>exact tLoop k lv x hc
 | fact lv=>exact tFact lv
 | index lv=>exact tIndex lv
theorem x_ans (L:List Tk)(s:PS)(cmd:XC)(h:cmd.ok):Tot fun n=>xP L n cmd s:=x_tot L _ s (Nat.le_refl _) cmd h
theorem row_ans (L:List Tk)(s:PS)(lv:Int):Tot fun n=>xP L n (.row 1 lv) s:=x_ans L s _ ⟨by omega,by omega⟩
end Go.Vm.Parse
namespace Go.Vm
variable {P:Program} {E:Hooks}
theorem ends_seq {a b:Code}{s:St}{H:Heap}{Q:QA}(J:List Value→Heap→Prop)(h1:Ends ((run P E).code a s H) fun e s H=>e = .normal∧s.ds=[]∧J s.t H)
  (h2:∀ t H,J t H→Ends ((run P E).code b ⟨Fr t [],[]⟩ H) Q):Ends ((run P E).code (.seq a b) s H) Q:=by
 obtain⟨e,⟨t,ds⟩,H',e1,rfl,e2,hJ⟩:=h1
 simp only at e2
 subst e2
 obtain⟨e',s',H2,e3,h3⟩:=h2 t H' hJ
 rw[Fr_nil]at e3
 refine⟨e',s',H2,?_,h3⟩
 rw[run_code]
 show (match (run P E).code a s H with | some (.normal,s',H')=>(run P E).code b s' H' | x=>x)=_
 rw[e1]
 exact e3
theorem code_skip_seq (x:Code)(hx:x = .skip∨∃ l,x = .label l)(C:Code)(s:St)(H:Heap):(run P E).code (.seq x C) s H=(run P E).code C s H:=by
 have e:(run P E).code x s H=some (.normal,s,H):=by
  rcases hx with rfl | ⟨l,rfl⟩<;>(rw[run_code];rfl)
 rw[run_code]
 show (match (run P E).code x s H with | some (.normal,s',H')=>(run P E).code C s' H' | x=>x)=_
 rw[e]
theorem ends_back {a C:Code}{l:Nat}(hn:findLabel a l=none){Q:QA}{I:Nat→List Value→Heap→Prop}(m0:Nat){s:St}{H:Heap}
  (step:∀ m t H,I m t H→Ends ((run P E).code C ⟨Fr t [],[]⟩ H) (backQ l I m Q)) (first:Ends ((run P E).code a s H) fun e s H=>e = .normal∧s.ds=[]∧I m0 s.t H) :
  Ends ((run P E).code (.scope (.seq a (.seq (.label l) C))) s H) Q:=by
 have hf:findLabel (.seq a (.seq (.label l) C)) l=some (.seq .skip C):=by simp[findLabel,hn]
 refine ends_scope (I:=I) (Q:=Q) hf (fun m t H hI => ?_) m0 (ends_seq (Q:=backQ l I m0 Q) _ first fun t H hI => ?_)
 · rw[code_skip_seq _ (.inl rfl)];exact step m t H hI
 · rw[code_skip_seq _ (.inr ⟨_,rfl⟩)];exact step m0 t H hI
end Go.Vm
namespace Go.Vm.Ex
open Go Go.Proofs Go.Vm.Parse
attribute [local simp] repCells_succ writeAt rd_Fr toList_beq gpe gpn spe gse gsn ne_r0 ne_l0 le_s0 ne_r1 ne_l1 lt_s1 le_s1 ne_r2 ne_l2 lt_s2 le_s2 ne_r3 ne_l3 lt_s3 le_s3 ne_r4 ne_l4 lt_s4 le_s4 ne_r5 ne_l5 lt_s5 le_s5 ne_r6 ne_l6 lt_s6 le_s6 ne_r7 ne_l7 lt_s7 le_s7
theorem pl_xrow:planOf Tryd.prog (drawN Tryd.f77 0)=some [(some (0,2)),(some (0,2)),(some (0,2)),(some (0,1)),none,none,none,none,none]:=by decide +kernel
def XRowI (r lid:Nat)(L:List Tk)(k lv:Int)(f:FuncId)(sid oid:Nat)(H:Heap)(e:Ex)(s':PS)(n m:Nat)(t:List Value)(K:Heap):Prop :=
 m≤n∧∃ (x:Ex) (s1:PS) (cs:List Value) (X:Nat),xP L m (.loop k lv x) s1=some (e,s')∧t.length=47∧rd t 0 = .pointer (some ⟨r,0,none⟩)∧rd t 1 = .func (.func f) #[.pointer (some ⟨r,0,none⟩)] #[]∧rd t 2 = .bool (decide (k=4)) ∧
  rd t 3 = .slice (some ⟨sid,0,none⟩) (rowL k).length (rowL k).length∧rd t 4 = .slice (some ⟨oid,0,none⟩) (rowL k).length (rowL k).length∧rd t 10 = .pointer (some ⟨H.n,0,none⟩)∧rd t 11 = .pointer (some ⟨X,0,none⟩) ∧
  RQ K r lid L s1 lv∧Same (·=r) (H.push (.row true 0 1 z6)) K∧H.n<X∧X<K.n∧K.get X = .row true 0 1 cs∧Six cs∧(s1.c=0→RE K (fun i=>H.n+1≤i∧i≠X) x cs)
section
variable {E:Hooks} (hE:Plain E)
include hE
theorem row_core {f:FuncId}{n:Nat}{H:Heap}{r lid sid oid t1 t2:Nat}{L:List Tk}{s s':PS}{k lv:Int}{e:Ex}(hf:∀ j,j≤n→Reads E L f (.row (k+1)) j)(h:RP H r lid L s lv)(hc:s.c=0)(h0l:0≤lv)(hlv:lv≤24)
  (hk:k≠7∧k≠3) (hlen:(rowL k).length≤100) (gs:H.get sid = .row true t1 1 ((rowL k).map fun x => .string x.1)) (go:H.get oid = .row true t2 1 ((rowL k).map fun x => .int .i64 x.2)) (hs:sid≠r) (ho:oid≠r)
  (hx:xP L (n+1) (.row k lv) s=some (e,s')) :
  Gives ((run Tryd.prog E).call 77 [.pointer (some ⟨r,0,none⟩),.func (.func f) #[.pointer (some ⟨r,0,none⟩)] #[],.bool (decide (k=4)),.slice (some ⟨sid,0,none⟩) (rowL k).length (rowL k).length,.slice (some ⟨oid,0,none⟩) (rowL k).length (rowL k).length] H) (RetX H r lid L e s' lv):=by
 have hr:=h.lt
 have hl:=h.lid_lt
 have hsl:=Heap.lt_of_get gs (by simp)
 have hol:=Heap.lt_of_get go (by simp)
 have hsm:=h.small
 rw[xP,if_neg (by simpa using hc),if_neg hk.1,if_neg hk.2]at hx
 simp only[Option.bind_eq_some_iff]at hx
 obtain⟨⟨x0,s0⟩,hx1,hx2⟩:=hx
 rw[k_row hE,callB,bodyOf]
 simp[Tryd.f77]
 refine ends_back (I:=XRowI r lid L k lv f sid oid H e s' n) rfl n ?_ ?_
 · rintro m t K ⟨hmn,x,s1,cs,X,hxl,ht,u0,u1,u2,u3,u4,u10,u11,⟨s2,h2,hc2,ha2,hs2⟩,kS,hX,hXn,gX,⟨a,b,c,d,y,b1,m1,c1,rfl⟩,rX⟩
   obtain⟨K1,e1,k1⟩:=tok_run hE h2
   have h3:=(h2.same k1).same (Same.push (fun _=>False) _ (.row true 0 1 (tok L s2.p).cells))
   have n1:=k1.n
   have nS:=kS.n
   simp at nS
   have kA:Same (fun _=>False) K (K1.push (.row true 0 1 (tok L s2.p).cells)):=k1.then_push _
   have gs2:(K1.push (.row true 0 1 (tok L s2.p).cells)).get sid=_:=kA.get sid (by omega) (fun h=>h) |>.trans ((kS.get sid (by simp;omega) hs).trans ((Heap.get_push _ _ _).trans ((if_neg (by omega)).trans gs)))
   have go2:(K1.push (.row true 0 1 (tok L s2.p).cells)).get oid=_:=kA.get oid (by omega) (fun h=>h) |>.trans ((kS.get oid (by simp;omega) ho).trans ((Heap.get_push _ _ _).trans ((if_neg (by omega)).trans go)))
   obtain⟨K2,e2,k2⟩:=op_run2 hE (tok L s2.p) (rowL k) hlen gs2 go2
   have h4:=h3.same k2
   have n2:=k2.n
   simp at n2
   have kB:=kA.then0 k2
   have gt:K2.get K1.n = .row true 0 1 (tok L s2.p).cells:=k2.at (Heap.get_push_self _ _) (by simp) (fun h=>h)
   have gX2:K2.get X=_:=kB.at gX (by simp) (fun h=>h)
   have kS2:Same (·=r) (H.push (.row true 0 1 z6)) K2:=kS.trans (Same.none kB)
   have gN2:K2.get H.n = .row true 0 1 z6:=kS2.at (Heap.get_push_self _ _) (by simp) (by omega)
   have hbad:=bad_run2 hE h4
   have hobj:=h4.obj
   cases m with
   | zero=>cases hxl
   | succ m =>
   rw[xP]at hxl
   by_cases hstop:opP L s1 k=0
   · rw[if_pos hstop]at hxl
     simp only[Option.some.injEq,Prod.mk.injEq]at hxl
     obtain⟨rfl,rfl⟩:=hxl
     have k5:Same (fun i=>i=H.n) K2 (K2.set H.n (.row true 0 1 [.int .i64 a,.int .i64 b,.int .i64 c,.int .i64 d,.string y,.slice b1 m1 c1])):=Same.set (X:=fun i=>i=H.n) K2 (by omega) rfl _
     have fin:RetX H r lid L x s1 lv (.val (.agg ⟨[.int .i64 a,.int .i64 b,.int .i64 c,.int .i64 d,.string y,.slice b1 m1 c1]⟩)) (K2.set H.n (.row true 0 1 [.int .i64 a,.int .i64 b,.int .i64 c,.int .i64 d,.string y,.slice b1 m1 c1])):=by
      refine⟨_,rfl,⟨_,_,_,_,_,_,_,_,rfl⟩,((Same.push _ _ _).trans kS2).then k5 (fun i hi => .inr (by omega)),⟨s2,h4.keep k5 (by omega) (by omega),hc2,ha2,hs2⟩,fun hc1 => ?_⟩
      exact RE.move ((Same.none (X:=fun i=>i=H.n) kB).trans k5) (fun i hi _=>⟨by omega,by omega⟩) _ _ (rX hc1)
     have hop:opS (tok L s2.p) (rowL k)=0∨¬s2.c=0:=by
      by_cases hc1:s1.c=0
      · rw[hs2 hc1,← opP_row hc1];exact .inl hstop
      · exact .inr (by rw[hc2];exact hc1)
     generalize opS (tok L s2.p) (rowL k)=q at *
     generalize tok L s2.p=tk at *
     simp only[Tk.v,Tk.cells,z6]at *
     simp[ht,u0,u1,u2,u3,u4,u10,u11,e1,e2,gX2,gN2,show H.n<K2.n by omega]
     by_cases hq:q=0
     · simp[hq,ht,u0,u1,u2,u3,u4,u10,u11,e1,e2,gX2,gN2,show H.n<K2.n by omega]
       exact fin
     · have hb:¬s2.c=0:=hop.resolve_left hq
       simp[hq,hbad,hb,ht,u0,u1,u2,u3,u4,u10,u11,e1,e2,gX2,gN2,show H.n<K2.n by omega]
       exact fin
   · rw[if_neg hstop]at hxl
     simp only[Option.bind_eq_some_iff]at hxl
     obtain⟨⟨x2,s3⟩,hxa,hxb⟩:=hxl
     have hop:=opP_lt hstop
     have hc1:=hop.1
     obtain rfl:s2=s1:=hs2 hc1
     have hop2:opS (tok L s2.p) (rowL k)=opP L s2 k:=(opP_row hc1 k).symm
     have h5:=h4.turn s2.on lv (by show s2.p+1≤_;have:=hop.2;omega)
     have k5:Same (·=r) _ _:=Same.set (X:=(·=r)) K2 h4.lt rfl (.row true 0 1 (prs lid L.length s2.on lv))
     obtain⟨o,K3,e3,cs3,rfl,⟨a2,b2,c2,d2,y2,b12,m12,c12,rfl⟩,k6,q6,r6⟩:=hf m (by omega) _ r lid s2.on lv x2 s3 h5 hc1 h0l hlv hxa
     have n3:=(k5.trans k6).n
     have kS3:Same (·=r) (H.push (.row true 0 1 z6)) K3:=kS2.trans (k5.trans k6)
     have gX3:K3.get X=_:=(k5.trans k6).at gX2 (by simp) (by omega)
     have gN3:K3.get H.n = .row true 0 1 z6:=kS3.at (Heap.get_push_self _ _) (by simp) (by omega)
     have gt5:(K2.set r (.row true 0 1 (prs lid L.length s2.on lv))).get K1.n = .row true 0 1 (tok L s2.p).cells:=k5.at gt (by simp) (by have:=h2.lt;omega)
     have gX5:(K2.set r (.row true 0 1 (prs lid L.length s2.on lv))).get X=_:=k5.at gX2 (by simp) (by omega)
     have gt3:K3.get K1.n = .row true 0 1 (tok L s2.p).cells:=k6.at gt5 (by simp) (by have:=h2.lt;omega)
     have hw:=wrap64 ((s2.p:Int)+1) (by omega) (by have:=hop.2;omega)
     have k7:Same (fun _=>False) K3 (K3.push (.row true 0 6 ([.int .i64 a,.int .i64 b,.int .i64 c,.int .i64 d,.string y,.slice b1 m1 c1]++[.int .i64 a2,.int .i64 b2,.int .i64 c2,.int .i64 d2,.string y2,.slice b12 m12 c12]))):=Same.push _ _ _
     have k8:Same (fun i=>i=X) _ _:=Same.set (X:=fun i=>i=X) (K3.push (.row true 0 6 ([.int .i64 a,.int .i64 b,.int .i64 c,.int .i64 d,.string y,.slice b1 m1 c1]++[.int .i64 a2,.int .i64 b2,.int .i64 c2,.int .i64 d2,.string y2,.slice b12 m12 c12]))) (by simp;omega) rfl
      (.row true 0 1 [.int .i64 6,.int .i64 (tok L s2.p).at_,.int .i64 0,.int .i64 (opP L s2 k),.string ByteArray.empty,.slice (some ⟨K3.n,0,none⟩) 2 2])
     have q8:=(q6.keep k7 (fun h=>h) (fun h=>h)).keep k8 (by omega) (by omega)
     have kS8:=(kS3.trans (Same.none k7)).then k8 (fun i hi => .inr (by simp;omega))
     have r8:s3.c=0→RE ((K3.push (.row true 0 6 ([.int .i64 a,.int .i64 b,.int .i64 c,.int .i64 d,.string y,.slice b1 m1 c1]++[.int .i64 a2,.int .i64 b2,.int .i64 c2,.int .i64 d2,.string y2,.slice b12 m12 c12]))).set X (.row true 0 1 [.int .i64 6,.int .i64 (tok L s2.p).at_,.int .i64 0,.int .i64 (opP L s2 k),.string ByteArray.empty,.slice (some ⟨K3.n,0,none⟩) 2 2]))
       (fun i=>H.n+1≤i∧i≠X) (.mk 6 (tok L s2.p).at_ 0 (opP L s2 k) ByteArray.empty [x,x2]) [.int .i64 6,.int .i64 (tok L s2.p).at_,.int .i64 0,.int .i64 (opP L s2 k),.string ByteArray.empty,.slice (some ⟨K3.n,0,none⟩) 2 2]:=fun hc3=>by
      have rx:=RE.move (((Same.none kB).trans (k5.trans k6)).trans (Same.none k7)) (S':=fun i=>H.n+1≤i∧i≠X) (fun i hi _=>⟨hi,by omega⟩) _ _ (rX hc1)
      have rx2:=RE.move k7 (S':=fun i=>H.n+1≤i∧i≠X) (fun i hi _=>⟨⟨by simp at hi;omega,by simp at hi;omega⟩,fun h=>h⟩) _ _ (r6 hc3)
      have rG:=RE.parts 6 (tok L s2.p).at_ 0 (opP L s2 k) ByteArray.empty (S:=fun i=>H.n+1≤i∧i≠X) (id:=K3.n) ⟨by omega,by omega⟩ (Heap.get_push_self _ _) (REs.two rx rx2)
      exact RE.move k8 (fun i hi _=>⟨hi,hi.2⟩) _ _ rG
     have gX8:((K3.push (.row true 0 6 ([.int .i64 a,.int .i64 b,.int .i64 c,.int .i64 d,.string y,.slice b1 m1 c1]++[.int .i64 a2,.int .i64 b2,.int .i64 c2,.int .i64 d2,.string y2,.slice b12 m12 c12]))).set X (.row true 0 1 [.int .i64 6,.int .i64 (tok L s2.p).at_,.int .i64 0,.int .i64 (opP L s2 k),.string ByteArray.empty,.slice (some ⟨K3.n,0,none⟩) 2 2])).get X=_:=Heap.get_set_self _ _ (by simp;omega)
     have gN8:((K3.push (.row true 0 6 ([.int .i64 a,.int .i64 b,.int .i64 c,.int .i64 d,.string y,.slice b1 m1 c1]++[.int .i64 a2,.int .i64 b2,.int .i64 c2,.int .i64 d2,.string y2,.slice b12 m12 c12]))).set X (.row true 0 1 [.int .i64 6,.int .i64 (tok L s2.p).at_,.int .i64 0,.int .i64 (opP L s2 k),.string ByteArray.empty,.slice (some ⟨K3.n,0,none⟩) 2 2])).get H.n = .row true 0 1 z6:=kS8.at (Heap.get_push_self _ _) (by simp) (by omega)
     have n8:((K3.push (.row true 0 6 ([.int .i64 a,.int .i64 b,.int .i64 c,.int .i64 d,.string y,.slice b1 m1 c1]++[.int .i64 a2,.int .i64 b2,.int .i64 c2,.int .i64 d2,.string y2,.slice b12 m12 c12]))).set X (.row true 0 1 [.int .i64 6,.int .i64 (tok L s2.p).at_,.int .i64 0,.int .i64 (opP L s2 k),.string ByteArray.empty,.slice (some ⟨K3.n,0,none⟩) 2 2])).n=K3.n+1:=rfl
     rw[hop2]at e2
     generalize hoq:opP L s2 k=q at *
     generalize tok L s2.p=tk at *
     simp only[Tk.v,Tk.cells,z6,prs,PS.on,List.cons_append,List.nil_append]at *
     simp only[hc1,Int.natCast_add,Int.natCast_one]at e3 gt5 gX5
     simp[ht,u0,u1,u2,u3,u4,u10,u11,e1,e2,gX2,gN2,show H.n<K2.n by omega,hstop,hbad,hc1,hobj,hw]
     refine region_plan (by exact pl_xrow) ?_
     generalize hK5:K2.set r _=K5 at *
     simp[ht,u0,u1,u2,u3,u4,u10,u11,e1,e2,gX2,gN2,gt5,gX5,e3,gX3,gt3,show X<K3.n by omega,show ¬X=K3.n by omega,show ¬K1.n=K3.n by omega]
     generalize hK8:(K3.push _).set X _=K8 at *
     by_cases h4:k=4
     · rw[if_pos h4]at hxb
       simp only[Option.some.injEq,Prod.mk.injEq]at hxb
       obtain⟨rfl,rfl⟩:=hxb
       have k9:Same (fun i=>i=H.n) K8 (K8.set H.n (.row true 0 1 [.int .i64 6,.int .i64 tk.at_,.int .i64 0,.int .i64 q,.string ByteArray.empty,.slice (some ⟨K3.n,0,none⟩) 2 2])):=Same.set (X:=fun i=>i=H.n) K8 (by omega) rfl _
       simp[h4,ht,u0,u1,u2,u3,u4,u10,u11,gX8,gN8,show H.n<K8.n by omega]
       refine⟨_,rfl,⟨_,_,_,_,_,_,_,_,rfl⟩,((Same.push _ _ _).trans kS8).then k9 (fun i hi => .inr (by omega)),q8.keep k9 (by omega) (by omega),fun hc3 => ?_⟩
       exact RE.move k9 (fun i hi _=>⟨by omega,by omega⟩) _ _ (r8 hc3)
     · rw[if_neg h4]at hxb
       simp[h4,ht,u0,u1,u2,u3,u4,u10,u11,gX8,gN8,show H.n<K8.n by omega]
       refine⟨m,by omega,by omega,_,s3,_,X,hxb,by simp[ht],by simp[ht,u0],by simp[ht,u1],by simp[ht,u2,h4],by simp[ht,u3],by simp[ht,u4],by simp[ht,u10],by simp[ht,u11],q8,kS8,hX,by omega,gX8,⟨_,_,_,_,_,_,_,_,rfl⟩,r8⟩
 · have h0:=h.same (Same.push (fun _=>False) _ (.row true 0 1 z6))
   obtain⟨o,K1,e1,cs,rfl,⟨a,b,c,d,y,b1,m1,c1,rfl⟩,k1,q1,r1⟩:=hf n (Nat.le_refl n) _ r lid s lv x0 s0 h0 hc h0l hlv hx1
   have n1:=k1.n
   simp at n1
   have e1':=e1
   simp only[z6]at e1'
   simp[e1']
   refine⟨Nat.le_refl n,x0,s0,_,K1.n,hx2,by simp[len_Bs],by simp,by simp,by simp,by simp,by simp,by simp,by simp,q1.keep (Same.push (fun _=>False) _ _) (fun h=>h) (fun h=>h),k1.then_push _,by omega,by simp,Heap.get_push_self _ _,⟨_,_,_,_,_,_,_,_,rfl⟩,fun hc0 => ?_⟩
   exact RE.move (Same.push (fun _=>False) _ _) (fun i hi hlt=>⟨⟨by simp at hi;omega,by omega⟩,fun h=>h⟩) _ _ (r1 hc0)
end
theorem rowL1:rowL 1=[(⟨#[111,114]⟩,22)]:=by decide
theorem rowL2:rowL 2=[(⟨#[97,110,100]⟩,21)]:=by decide
theorem rowL4:rowL 4=[(⟨#[61]⟩,15),(⟨#[60,62]⟩,16),(⟨#[60]⟩,17),(⟨#[60,61]⟩,18),(⟨#[62]⟩,19),(⟨#[62,61]⟩,20)]:=by decide
theorem rowL5:rowL 5=[(⟨#[43]⟩,9),(⟨#[45]⟩,10)]:=by decide
theorem rowL6:rowL 6=[(⟨#[42]⟩,11),(⟨#[47]⟩,12),(⟨#[37]⟩,13)]:=by decide
section
variable {E:Hooks} (hE:Plain E)
include hE
theorem RetX.out {H K:Heap}{r lid:Nat}{L:List Tk}{e:Ex}{s:PS}{lv:Int}{o:Out}{K':Heap}(hr:r<H.n)(hl:lid<H.n)(kS:Same (fun _=>False) (H.push (.row true 0 1 z6)) K)(h:RetX K r lid L e s lv o K') :
  ∃ cs,o = .val (.agg ⟨cs⟩)∧Six cs∧K'.get H.n = .row true 0 1 z6∧H.n<K'.n∧RetX H r lid L e s lv (.val (.agg ⟨cs⟩)) (K'.set H.n (.row true 0 1 cs)):=by
 have _:=hE
 obtain⟨cs,rfl,h6,k,q,re⟩:=h
 have n1:=kS.n
 have n2:=k.n
 simp at n1
 have kk:Same (·=r) (H.push (.row true 0 1 z6)) K':=(Same.none kS).trans k
 have g:K'.get H.n = .row true 0 1 z6:=kk.at (Heap.get_push_self _ _) (by simp) (by omega)
 have k5:Same (fun i=>i=H.n) K' (K'.set H.n (.row true 0 1 cs)):=Same.set (X:=fun i=>i=H.n) K' (by omega) rfl _
 exact⟨cs,rfl,h6,g,by omega,cs,rfl,h6,((Same.push _ _ _).trans kk).then k5 (fun i hi => .inr (by omega)),q.keep k5 (by omega) (by omega),fun hc=>RE.move k5 (fun i hi _=>⟨by omega,by omega⟩) _ _ (re hc)⟩
theorem expr_reads {L:List Tk}{n:Nat}(hf:∀ j,j≤n→Reads E L 78 (.row (1+1)) j):Reads E L 42 (.row 1) (n+1):=by
 intro H r lid s lv e s' h hc h0l hlv hx
 have hr:=h.lt
 have hl:=h.lid_lt
 have kS:Same (fun _=>False) (H.push (.row true 0 1 z6)) (((H.push (.row true 0 1 z6)).push (.row true 0 1 [.string ⟨#[111,114]⟩])).push (.row true 0 1 [.int .i64 22])):=(Same.push _ _ _).then_push _
 have h2:=h.same ((Same.push (fun _=>False) _ _).trans kS)
 have core:=row_core hE (sid:=H.n+1) (oid:=H.n+1+1) (t1:=0) (t2:=0) hf h2 hc h0l hlv (by omega) (by rw[rowL1];simp) (by rw[rowL1];simp) (by rw[rowL1];simp) (by omega) (by omega) hx
 obtain⟨o,K',e1,hR⟩:=core
 obtain⟨cs,rfl,⟨a,b,c,d,y,b1,m1,c1,rfl⟩,g,hn,fin⟩:=RetX.out hE hr hl kS hR
 rw[rowL1]at e1
 rw[k_expr hE,callB,bodyOf]
 simp only[z6,List.length_cons,List.length_nil,Nat.zero_add]at *
 simp[Tryd.f42]
 simp at e1
 simp[e1,g,hn]
 exact fin
theorem conj_reads {L:List Tk}{n:Nat}(hf:∀ j,j≤n→Reads E L 93 (.row (2+1)) j):Reads E L 78 (.row 2) (n+1):=by
 intro H r lid s lv e s' h hc h0l hlv hx
 have hr:=h.lt
 have hl:=h.lid_lt
 have kS:Same (fun _=>False) (H.push (.row true 0 1 z6)) (((H.push (.row true 0 1 z6)).push (.row true 0 1 [.string ⟨#[97,110,100]⟩])).push (.row true 0 1 [.int .i64 21])):=(Same.push _ _ _).then_push _
 have h2:=h.same ((Same.push (fun _=>False) _ _).trans kS)
 have core:=row_core hE (sid:=H.n+1) (oid:=H.n+1+1) (t1:=0) (t2:=0) hf h2 hc h0l hlv (by omega) (by rw[rowL2];simp) (by rw[rowL2];simp) (by rw[rowL2];simp) (by omega) (by omega) hx
 obtain⟨o,K',e1,hR⟩:=core
 obtain⟨cs,rfl,⟨a,b,c,d,y,b1,m1,c1,rfl⟩,g,hn,fin⟩:=RetX.out hE hr hl kS hR
 rw[rowL2]at e1
 rw[k_conj hE,callB,bodyOf]
 simp only[z6,List.length_cons,List.length_nil,Nat.zero_add]at *
 simp[Tryd.f78]
 simp at e1
 simp[e1,g,hn]
 exact fin
theorem rel_reads {L:List Tk}{n:Nat}(hf:∀ j,j≤n→Reads E L 117 (.row (4+1)) j):Reads E L 108 (.row 4) (n+1):=by
 intro H r lid s lv e s' h hc h0l hlv hx
 have hr:=h.lt
 have hl:=h.lid_lt
 have kS:Same (fun _=>False) (H.push (.row true 0 1 z6)) (((H.push (.row true 0 1 z6)).push (.row true 0 1 [.string ⟨#[61]⟩,.string ⟨#[60,62]⟩,.string ⟨#[60]⟩,.string ⟨#[60,61]⟩,.string ⟨#[62]⟩,.string ⟨#[62,61]⟩])).push (.row true 0 1 [.int .i64 15,.int .i64 16,.int .i64 17,.int .i64 18,.int .i64 19,.int .i64 20])):=(Same.push _ _ _).then_push _
 have h2:=h.same ((Same.push (fun _=>False) _ _).trans kS)
 have core:=row_core hE (sid:=H.n+1) (oid:=H.n+1+1) (t1:=0) (t2:=0) hf h2 hc h0l hlv (by omega) (by rw[rowL4];simp) (by rw[rowL4];simp) (by rw[rowL4];simp) (by omega) (by omega) hx
 obtain⟨o,K',e1,hR⟩:=core
 obtain⟨cs,rfl,⟨a,b,c,d,y,b1,m1,c1,rfl⟩,g,hn,fin⟩:=RetX.out hE hr hl kS hR
 rw[rowL4]at e1
 rw[k_rel hE,callB,bodyOf]
 simp only[z6,List.length_cons,List.length_nil,Nat.zero_add]at *
 simp[Tryd.f108]
 simp at e1
 simp[e1,g,hn]
 exact fin
theorem sum_reads {L:List Tk}{n:Nat}(hf:∀ j,j≤n→Reads E L 121 (.row (5+1)) j):Reads E L 117 (.row 5) (n+1):=by
 intro H r lid s lv e s' h hc h0l hlv hx
 have hr:=h.lt
 have hl:=h.lid_lt
 have kS:Same (fun _=>False) (H.push (.row true 0 1 z6)) (((H.push (.row true 0 1 z6)).push (.row true 0 1 [.string ⟨#[43]⟩,.string ⟨#[45]⟩])).push (.row true 0 1 [.int .i64 9,.int .i64 10])):=(Same.push _ _ _).then_push _
 have h2:=h.same ((Same.push (fun _=>False) _ _).trans kS)
 have core:=row_core hE (sid:=H.n+1) (oid:=H.n+1+1) (t1:=0) (t2:=0) hf h2 hc h0l hlv (by omega) (by rw[rowL5];simp) (by rw[rowL5];simp) (by rw[rowL5];simp) (by omega) (by omega) hx
 obtain⟨o,K',e1,hR⟩:=core
 obtain⟨cs,rfl,⟨a,b,c,d,y,b1,m1,c1,rfl⟩,g,hn,fin⟩:=RetX.out hE hr hl kS hR
 rw[rowL5]at e1
 rw[k_sum hE,callB,bodyOf]
 simp only[z6,List.length_cons,List.length_nil,Nat.zero_add]at *
 simp[Tryd.f117]
 simp at e1
 simp[e1,g,hn]
 exact fin
theorem term_reads {L:List Tk}{n:Nat}(hf:∀ j,j≤n→Reads E L 122 (.row (6+1)) j):Reads E L 121 (.row 6) (n+1):=by
 intro H r lid s lv e s' h hc h0l hlv hx
 have hr:=h.lt
 have hl:=h.lid_lt
 have kS:Same (fun _=>False) (H.push (.row true 0 1 z6)) (((H.push (.row true 0 1 z6)).push (.row true 0 1 [.string ⟨#[42]⟩,.string ⟨#[47]⟩,.string ⟨#[37]⟩])).push (.row true 0 1 [.int .i64 11,.int .i64 12,.int .i64 13])):=(Same.push _ _ _).then_push _
 have h2:=h.same ((Same.push (fun _=>False) _ _).trans kS)
 have core:=row_core hE (sid:=H.n+1) (oid:=H.n+1+1) (t1:=0) (t2:=0) hf h2 hc h0l hlv (by omega) (by rw[rowL6];simp) (by rw[rowL6];simp) (by rw[rowL6];simp) (by omega) (by omega) hx
 obtain⟨o,K',e1,hR⟩:=core
 obtain⟨cs,rfl,⟨a,b,c,d,y,b1,m1,c1,rfl⟩,g,hn,fin⟩:=RetX.out hE hr hl kS hR
 rw[rowL6]at e1
 rw[k_term hE,callB,bodyOf]
 simp only[z6,List.length_cons,List.length_nil,Nat.zero_add]at *
 simp[Tryd.f121]
 simp at e1
 simp[e1,g,hn]
 exact fin
end
end Go.Vm.Ex
