/- What is proved: the facts of the program's types, as the machine asks for them. -/
import Derived.Test.YtblmgcfigcpoaaaProg
import Derived.Test.YtblmgcfigcpoaaaVmJ
namespace Go.Vm
open Go.Proofs
set_option maxRecDepth 100000
@[simp] theorem size0 : sizeT Try.prog 0 = some 1 := by kernel_rfl
@[simp] theorem bytes0 : bytesT Try.prog 0 = some 0 := by kernel_rfl
@[simp] theorem agg0 : aggT Try.prog 0 = some false := by kernel_rfl
@[simp] theorem kind0 : kindT Try.prog 0 = some .other := by kernel_rfl
@[simp] theorem size1 : sizeT Try.prog 1 = some 1 := by kernel_rfl
@[simp] theorem bytes1 : bytesT Try.prog 1 = some 8 := by kernel_rfl
@[simp] theorem agg1 : aggT Try.prog 1 = some false := by kernel_rfl
@[simp] theorem kind1 : kindT Try.prog 1 = some .func := by kernel_rfl
@[simp] theorem zero1 : zeroT Try.prog 1 = some (.nilFunc) := by kernel_rfl
@[simp] theorem size2 : sizeT Try.prog 2 = some 1 := by kernel_rfl
@[simp] theorem bytes2 : bytesT Try.prog 2 = some 8 := by kernel_rfl
@[simp] theorem agg2 : aggT Try.prog 2 = some false := by kernel_rfl
@[simp] theorem kind2 : kindT Try.prog 2 = some (.int .i64) := by kernel_rfl
@[simp] theorem zero2 : zeroT Try.prog 2 = some (.int .i64 0) := by kernel_rfl
@[simp] theorem size3 : sizeT Try.prog 3 = some 1 := by kernel_rfl
@[simp] theorem bytes3 : bytesT Try.prog 3 = some 8 := by kernel_rfl
@[simp] theorem agg3 : aggT Try.prog 3 = some false := by kernel_rfl
@[simp] theorem kind3 : kindT Try.prog 3 = some (.int .i64) := by kernel_rfl
@[simp] theorem zero3 : zeroT Try.prog 3 = some (.int .i64 0) := by kernel_rfl
@[simp] theorem size4 : sizeT Try.prog 4 = some 1 := by kernel_rfl
@[simp] theorem bytes4 : bytesT Try.prog 4 = some 1 := by kernel_rfl
@[simp] theorem agg4 : aggT Try.prog 4 = some false := by kernel_rfl
@[simp] theorem kind4 : kindT Try.prog 4 = some .bool := by kernel_rfl
@[simp] theorem zero4 : zeroT Try.prog 4 = some (.bool false) := by kernel_rfl
@[simp] theorem size5 : sizeT Try.prog 5 = some 1 := by kernel_rfl
@[simp] theorem bytes5 : bytesT Try.prog 5 = some 1 := by kernel_rfl
@[simp] theorem agg5 : aggT Try.prog 5 = some false := by kernel_rfl
@[simp] theorem kind5 : kindT Try.prog 5 = some (.int .u8) := by kernel_rfl
@[simp] theorem zero5 : zeroT Try.prog 5 = some (.int .u8 0) := by kernel_rfl
@[simp] theorem size6 : sizeT Try.prog 6 = some 1 := by kernel_rfl
@[simp] theorem bytes6 : bytesT Try.prog 6 = some 1 := by kernel_rfl
@[simp] theorem agg6 : aggT Try.prog 6 = some false := by kernel_rfl
@[simp] theorem kind6 : kindT Try.prog 6 = some (.int .u8) := by kernel_rfl
@[simp] theorem zero6 : zeroT Try.prog 6 = some (.int .u8 0) := by kernel_rfl
@[simp] theorem size7 : sizeT Try.prog 7 = some 4 := by kernel_rfl
@[simp] theorem bytes7 : bytesT Try.prog 7 = some 24 := by kernel_rfl
@[simp] theorem agg7 : aggT Try.prog 7 = some true := by kernel_rfl
@[simp] theorem kind7 : kindT Try.prog 7 = some .struct := by kernel_rfl
@[simp] theorem field7_0 : fieldT Try.prog 7 0 = some (0, 1, 2) := by kernel_rfl
@[simp] theorem field7_1 : fieldT Try.prog 7 1 = some (1, 1, 3) := by kernel_rfl
@[simp] theorem field7_2 : fieldT Try.prog 7 2 = some (2, 1, 4) := by kernel_rfl
@[simp] theorem field7_3 : fieldT Try.prog 7 3 = some (3, 1, 6) := by kernel_rfl
@[simp] theorem places7 : placesT Try.prog 7 = some [(0, 1), (1, 1), (2, 1), (3, 1)] := by kernel_rfl
@[simp] theorem zero7 : zeroT Try.prog 7 = some (.agg #[.int .i64 0, .int .i64 0, .bool false, .int .u8 0]) := by kernel_rfl
@[simp] theorem size8 : sizeT Try.prog 8 = some 4 := by kernel_rfl
@[simp] theorem bytes8 : bytesT Try.prog 8 = some 24 := by kernel_rfl
@[simp] theorem agg8 : aggT Try.prog 8 = some true := by kernel_rfl
@[simp] theorem kind8 : kindT Try.prog 8 = some .struct := by kernel_rfl
@[simp] theorem field8_0 : fieldT Try.prog 8 0 = some (0, 1, 2) := by kernel_rfl
@[simp] theorem field8_1 : fieldT Try.prog 8 1 = some (1, 1, 3) := by kernel_rfl
@[simp] theorem field8_2 : fieldT Try.prog 8 2 = some (2, 1, 4) := by kernel_rfl
@[simp] theorem field8_3 : fieldT Try.prog 8 3 = some (3, 1, 6) := by kernel_rfl
@[simp] theorem places8 : placesT Try.prog 8 = some [(0, 1), (1, 1), (2, 1), (3, 1)] := by kernel_rfl
@[simp] theorem zero8 : zeroT Try.prog 8 = some (.agg #[.int .i64 0, .int .i64 0, .bool false, .int .u8 0]) := by kernel_rfl
@[simp] theorem size9 : sizeT Try.prog 9 = some 1 := by kernel_rfl
@[simp] theorem bytes9 : bytesT Try.prog 9 = some 16 := by kernel_rfl
@[simp] theorem agg9 : aggT Try.prog 9 = some false := by kernel_rfl
@[simp] theorem kind9 : kindT Try.prog 9 = some .string := by kernel_rfl
@[simp] theorem zero9 : zeroT Try.prog 9 = some (.string "".toByteArray) := by kernel_rfl
@[simp] theorem size10 : sizeT Try.prog 10 = some 1 := by kernel_rfl
@[simp] theorem bytes10 : bytesT Try.prog 10 = some 16 := by kernel_rfl
@[simp] theorem agg10 : aggT Try.prog 10 = some false := by kernel_rfl
@[simp] theorem kind10 : kindT Try.prog 10 = some .string := by kernel_rfl
@[simp] theorem zero10 : zeroT Try.prog 10 = some (.string "".toByteArray) := by kernel_rfl
@[simp] theorem size11 : sizeT Try.prog 11 = some 1 := by kernel_rfl
@[simp] theorem bytes11 : bytesT Try.prog 11 = some 16 := by kernel_rfl
@[simp] theorem agg11 : aggT Try.prog 11 = some false := by kernel_rfl
@[simp] theorem kind11 : kindT Try.prog 11 = some .string := by kernel_rfl
@[simp] theorem zero11 : zeroT Try.prog 11 = some (.string "".toByteArray) := by kernel_rfl
@[simp] theorem size12 : sizeT Try.prog 12 = some 1 := by kernel_rfl
@[simp] theorem bytes12 : bytesT Try.prog 12 = some 8 := by kernel_rfl
@[simp] theorem agg12 : aggT Try.prog 12 = some false := by kernel_rfl
@[simp] theorem kind12 : kindT Try.prog 12 = some (.int .u64) := by kernel_rfl
@[simp] theorem zero12 : zeroT Try.prog 12 = some (.int .u64 0) := by kernel_rfl
@[simp] theorem size13 : sizeT Try.prog 13 = some 2 := by kernel_rfl
@[simp] theorem bytes13 : bytesT Try.prog 13 = some 24 := by kernel_rfl
@[simp] theorem agg13 : aggT Try.prog 13 = some true := by kernel_rfl
@[simp] theorem kind13 : kindT Try.prog 13 = some .struct := by kernel_rfl
@[simp] theorem field13_0 : fieldT Try.prog 13 0 = some (0, 1, 9) := by kernel_rfl
@[simp] theorem field13_1 : fieldT Try.prog 13 1 = some (1, 1, 12) := by kernel_rfl
@[simp] theorem places13 : placesT Try.prog 13 = some [(0, 1), (1, 1)] := by kernel_rfl
@[simp] theorem zero13 : zeroT Try.prog 13 = some (.agg #[.string "".toByteArray, .int .u64 0]) := by kernel_rfl
@[simp] theorem size14 : sizeT Try.prog 14 = some 2 := by kernel_rfl
@[simp] theorem bytes14 : bytesT Try.prog 14 = some 24 := by kernel_rfl
@[simp] theorem agg14 : aggT Try.prog 14 = some true := by kernel_rfl
@[simp] theorem kind14 : kindT Try.prog 14 = some .struct := by kernel_rfl
@[simp] theorem field14_0 : fieldT Try.prog 14 0 = some (0, 1, 9) := by kernel_rfl
@[simp] theorem field14_1 : fieldT Try.prog 14 1 = some (1, 1, 12) := by kernel_rfl
@[simp] theorem places14 : placesT Try.prog 14 = some [(0, 1), (1, 1)] := by kernel_rfl
@[simp] theorem zero14 : zeroT Try.prog 14 = some (.agg #[.string "".toByteArray, .int .u64 0]) := by kernel_rfl
@[simp] theorem size15 : sizeT Try.prog 15 = some 1 := by kernel_rfl
@[simp] theorem bytes15 : bytesT Try.prog 15 = some 8 := by kernel_rfl
@[simp] theorem agg15 : aggT Try.prog 15 = some false := by kernel_rfl
@[simp] theorem kind15 : kindT Try.prog 15 = some .ptr := by kernel_rfl
@[simp] theorem zero15 : zeroT Try.prog 15 = some (.pointer none) := by kernel_rfl
@[simp] theorem size16 : sizeT Try.prog 16 = some 1 := by kernel_rfl
@[simp] theorem bytes16 : bytesT Try.prog 16 = some 8 := by kernel_rfl
@[simp] theorem agg16 : aggT Try.prog 16 = some false := by kernel_rfl
@[simp] theorem kind16 : kindT Try.prog 16 = some .ptr := by kernel_rfl
@[simp] theorem zero16 : zeroT Try.prog 16 = some (.pointer none) := by kernel_rfl
@[simp] theorem size17 : sizeT Try.prog 17 = some 1 := by kernel_rfl
@[simp] theorem bytes17 : bytesT Try.prog 17 = some 8 := by kernel_rfl
@[simp] theorem agg17 : aggT Try.prog 17 = some false := by kernel_rfl
@[simp] theorem kind17 : kindT Try.prog 17 = some .ptr := by kernel_rfl
@[simp] theorem zero17 : zeroT Try.prog 17 = some (.pointer none) := by kernel_rfl
@[simp] theorem size18 : sizeT Try.prog 18 = some 1 := by kernel_rfl
@[simp] theorem bytes18 : bytesT Try.prog 18 = some 8 := by kernel_rfl
@[simp] theorem agg18 : aggT Try.prog 18 = some true := by kernel_rfl
@[simp] theorem kind18 : kindT Try.prog 18 = some .struct := by kernel_rfl
@[simp] theorem field18_0 : fieldT Try.prog 18 0 = some (0, 1, 17) := by kernel_rfl
@[simp] theorem places18 : placesT Try.prog 18 = some [(0, 1)] := by kernel_rfl
@[simp] theorem zero18 : zeroT Try.prog 18 = some (.agg #[.pointer none]) := by kernel_rfl
@[simp] theorem size19 : sizeT Try.prog 19 = some 1 := by kernel_rfl
@[simp] theorem bytes19 : bytesT Try.prog 19 = some 8 := by kernel_rfl
@[simp] theorem agg19 : aggT Try.prog 19 = some true := by kernel_rfl
@[simp] theorem kind19 : kindT Try.prog 19 = some .struct := by kernel_rfl
@[simp] theorem field19_0 : fieldT Try.prog 19 0 = some (0, 1, 17) := by kernel_rfl
@[simp] theorem places19 : placesT Try.prog 19 = some [(0, 1)] := by kernel_rfl
@[simp] theorem zero19 : zeroT Try.prog 19 = some (.agg #[.pointer none]) := by kernel_rfl
@[simp] theorem size20 : sizeT Try.prog 20 = some 1 := by kernel_rfl
@[simp] theorem bytes20 : bytesT Try.prog 20 = some 16 := by kernel_rfl
@[simp] theorem agg20 : aggT Try.prog 20 = some false := by kernel_rfl
@[simp] theorem kind20 : kindT Try.prog 20 = some .iface := by kernel_rfl
@[simp] theorem zero20 : zeroT Try.prog 20 = some (.nilIface) := by kernel_rfl
@[simp] theorem size21 : sizeT Try.prog 21 = some 1 := by kernel_rfl
@[simp] theorem bytes21 : bytesT Try.prog 21 = some 4 := by kernel_rfl
@[simp] theorem agg21 : aggT Try.prog 21 = some false := by kernel_rfl
@[simp] theorem kind21 : kindT Try.prog 21 = some (.int .i32) := by kernel_rfl
@[simp] theorem zero21 : zeroT Try.prog 21 = some (.int .i32 0) := by kernel_rfl
@[simp] theorem size22 : sizeT Try.prog 22 = some 1 := by kernel_rfl
@[simp] theorem bytes22 : bytesT Try.prog 22 = some 24 := by kernel_rfl
@[simp] theorem agg22 : aggT Try.prog 22 = some false := by kernel_rfl
@[simp] theorem kind22 : kindT Try.prog 22 = some .slice := by kernel_rfl
@[simp] theorem elem22 : elemT Try.prog 22 = some 5 := by kernel_rfl
@[simp] theorem zero22 : zeroT Try.prog 22 = some (.slice none 0 0) := by kernel_rfl
@[simp] theorem size23 : sizeT Try.prog 23 = some 1 := by kernel_rfl
@[simp] theorem bytes23 : bytesT Try.prog 23 = some 8 := by kernel_rfl
@[simp] theorem agg23 : aggT Try.prog 23 = some false := by kernel_rfl
@[simp] theorem kind23 : kindT Try.prog 23 = some .func := by kernel_rfl
@[simp] theorem zero23 : zeroT Try.prog 23 = some (.nilFunc) := by kernel_rfl
@[simp] theorem size24 : sizeT Try.prog 24 = some 1 := by kernel_rfl
@[simp] theorem bytes24 : bytesT Try.prog 24 = some 24 := by kernel_rfl
@[simp] theorem agg24 : aggT Try.prog 24 = some false := by kernel_rfl
@[simp] theorem kind24 : kindT Try.prog 24 = some .slice := by kernel_rfl
@[simp] theorem elem24 : elemT Try.prog 24 = some 42 := by kernel_rfl
@[simp] theorem zero24 : zeroT Try.prog 24 = some (.slice none 0 0) := by kernel_rfl
@[simp] theorem size25 : sizeT Try.prog 25 = some 1 := by kernel_rfl
@[simp] theorem bytes25 : bytesT Try.prog 25 = some 8 := by kernel_rfl
@[simp] theorem agg25 : aggT Try.prog 25 = some false := by kernel_rfl
@[simp] theorem kind25 : kindT Try.prog 25 = some (.int .i64) := by kernel_rfl
@[simp] theorem zero25 : zeroT Try.prog 25 = some (.int .i64 0) := by kernel_rfl
@[simp] theorem size26 : sizeT Try.prog 26 = some 2 := by kernel_rfl
@[simp] theorem bytes26 : bytesT Try.prog 26 = some 16 := by kernel_rfl
@[simp] theorem agg26 : aggT Try.prog 26 = some true := by kernel_rfl
@[simp] theorem kind26 : kindT Try.prog 26 = some .struct := by kernel_rfl
@[simp] theorem field26_0 : fieldT Try.prog 26 0 = some (0, 1, 25) := by kernel_rfl
@[simp] theorem field26_1 : fieldT Try.prog 26 1 = some (1, 1, 3) := by kernel_rfl
@[simp] theorem places26 : placesT Try.prog 26 = some [(0, 1), (1, 1)] := by kernel_rfl
@[simp] theorem zero26 : zeroT Try.prog 26 = some (.agg #[.int .i64 0, .int .i64 0]) := by kernel_rfl
@[simp] theorem size27 : sizeT Try.prog 27 = some 2 := by kernel_rfl
@[simp] theorem bytes27 : bytesT Try.prog 27 = some 16 := by kernel_rfl
@[simp] theorem agg27 : aggT Try.prog 27 = some true := by kernel_rfl
@[simp] theorem kind27 : kindT Try.prog 27 = some .struct := by kernel_rfl
@[simp] theorem field27_0 : fieldT Try.prog 27 0 = some (0, 1, 25) := by kernel_rfl
@[simp] theorem field27_1 : fieldT Try.prog 27 1 = some (1, 1, 3) := by kernel_rfl
@[simp] theorem places27 : placesT Try.prog 27 = some [(0, 1), (1, 1)] := by kernel_rfl
@[simp] theorem zero27 : zeroT Try.prog 27 = some (.agg #[.int .i64 0, .int .i64 0]) := by kernel_rfl
@[simp] theorem size28 : sizeT Try.prog 28 = some 1 := by kernel_rfl
@[simp] theorem bytes28 : bytesT Try.prog 28 = some 0 := by kernel_rfl
@[simp] theorem agg28 : aggT Try.prog 28 = some false := by kernel_rfl
@[simp] theorem kind28 : kindT Try.prog 28 = some .other := by kernel_rfl
@[simp] theorem size29 : sizeT Try.prog 29 = some 1 := by kernel_rfl
@[simp] theorem bytes29 : bytesT Try.prog 29 = some 8 := by kernel_rfl
@[simp] theorem agg29 : aggT Try.prog 29 = some false := by kernel_rfl
@[simp] theorem kind29 : kindT Try.prog 29 = some .func := by kernel_rfl
@[simp] theorem zero29 : zeroT Try.prog 29 = some (.nilFunc) := by kernel_rfl
@[simp] theorem size30 : sizeT Try.prog 30 = some 1 := by kernel_rfl
@[simp] theorem bytes30 : bytesT Try.prog 30 = some 8 := by kernel_rfl
@[simp] theorem agg30 : aggT Try.prog 30 = some false := by kernel_rfl
@[simp] theorem kind30 : kindT Try.prog 30 = some .func := by kernel_rfl
@[simp] theorem zero30 : zeroT Try.prog 30 = some (.nilFunc) := by kernel_rfl
@[simp] theorem size31 : sizeT Try.prog 31 = some 1 := by kernel_rfl
@[simp] theorem bytes31 : bytesT Try.prog 31 = some 8 := by kernel_rfl
@[simp] theorem agg31 : aggT Try.prog 31 = some false := by kernel_rfl
@[simp] theorem kind31 : kindT Try.prog 31 = some .func := by kernel_rfl
@[simp] theorem zero31 : zeroT Try.prog 31 = some (.nilFunc) := by kernel_rfl
@[simp] theorem size32 : sizeT Try.prog 32 = some 1 := by kernel_rfl
@[simp] theorem bytes32 : bytesT Try.prog 32 = some 8 := by kernel_rfl
@[simp] theorem agg32 : aggT Try.prog 32 = some false := by kernel_rfl
@[simp] theorem kind32 : kindT Try.prog 32 = some .func := by kernel_rfl
@[simp] theorem zero32 : zeroT Try.prog 32 = some (.nilFunc) := by kernel_rfl
@[simp] theorem size33 : sizeT Try.prog 33 = some 1 := by kernel_rfl
@[simp] theorem bytes33 : bytesT Try.prog 33 = some 24 := by kernel_rfl
@[simp] theorem agg33 : aggT Try.prog 33 = some false := by kernel_rfl
@[simp] theorem kind33 : kindT Try.prog 33 = some .slice := by kernel_rfl
@[simp] theorem elem33 : elemT Try.prog 33 = some 3 := by kernel_rfl
@[simp] theorem zero33 : zeroT Try.prog 33 = some (.slice none 0 0) := by kernel_rfl
@[simp] theorem size34 : sizeT Try.prog 34 = some 1 := by kernel_rfl
@[simp] theorem bytes34 : bytesT Try.prog 34 = some 24 := by kernel_rfl
@[simp] theorem agg34 : aggT Try.prog 34 = some false := by kernel_rfl
@[simp] theorem kind34 : kindT Try.prog 34 = some .slice := by kernel_rfl
@[simp] theorem elem34 : elemT Try.prog 34 = some 9 := by kernel_rfl
@[simp] theorem zero34 : zeroT Try.prog 34 = some (.slice none 0 0) := by kernel_rfl
@[simp] theorem size35 : sizeT Try.prog 35 = some 1 := by kernel_rfl
@[simp] theorem bytes35 : bytesT Try.prog 35 = some 8 := by kernel_rfl
@[simp] theorem agg35 : aggT Try.prog 35 = some false := by kernel_rfl
@[simp] theorem kind35 : kindT Try.prog 35 = some .func := by kernel_rfl
@[simp] theorem zero35 : zeroT Try.prog 35 = some (.nilFunc) := by kernel_rfl
@[simp] theorem size36 : sizeT Try.prog 36 = some 1 := by kernel_rfl
@[simp] theorem bytes36 : bytesT Try.prog 36 = some 24 := by kernel_rfl
@[simp] theorem agg36 : aggT Try.prog 36 = some false := by kernel_rfl
@[simp] theorem kind36 : kindT Try.prog 36 = some .slice := by kernel_rfl
@[simp] theorem elem36 : elemT Try.prog 36 = some 38 := by kernel_rfl
@[simp] theorem zero36 : zeroT Try.prog 36 = some (.slice none 0 0) := by kernel_rfl
@[simp] theorem size37 : sizeT Try.prog 37 = some 6 := by kernel_rfl
@[simp] theorem bytes37 : bytesT Try.prog 37 = some 72 := by kernel_rfl
@[simp] theorem agg37 : aggT Try.prog 37 = some true := by kernel_rfl
@[simp] theorem kind37 : kindT Try.prog 37 = some .struct := by kernel_rfl
@[simp] theorem field37_0 : fieldT Try.prog 37 0 = some (0, 1, 3) := by kernel_rfl
@[simp] theorem field37_1 : fieldT Try.prog 37 1 = some (1, 1, 3) := by kernel_rfl
@[simp] theorem field37_2 : fieldT Try.prog 37 2 = some (2, 1, 3) := by kernel_rfl
@[simp] theorem field37_3 : fieldT Try.prog 37 3 = some (3, 1, 3) := by kernel_rfl
@[simp] theorem field37_4 : fieldT Try.prog 37 4 = some (4, 1, 9) := by kernel_rfl
@[simp] theorem field37_5 : fieldT Try.prog 37 5 = some (5, 1, 36) := by kernel_rfl
@[simp] theorem places37 : placesT Try.prog 37 = some [(0, 1), (1, 1), (2, 1), (3, 1), (4, 1), (5, 1)] := by kernel_rfl
@[simp] theorem zero37 : zeroT Try.prog 37 = some (.agg #[.int .i64 0, .int .i64 0, .int .i64 0, .int .i64 0, .string "".toByteArray, .slice none 0 0]) := by kernel_rfl
@[simp] theorem size38 : sizeT Try.prog 38 = some 6 := by kernel_rfl
@[simp] theorem bytes38 : bytesT Try.prog 38 = some 72 := by kernel_rfl
@[simp] theorem agg38 : aggT Try.prog 38 = some true := by kernel_rfl
@[simp] theorem kind38 : kindT Try.prog 38 = some .struct := by kernel_rfl
@[simp] theorem field38_0 : fieldT Try.prog 38 0 = some (0, 1, 3) := by kernel_rfl
@[simp] theorem field38_1 : fieldT Try.prog 38 1 = some (1, 1, 3) := by kernel_rfl
@[simp] theorem field38_2 : fieldT Try.prog 38 2 = some (2, 1, 3) := by kernel_rfl
@[simp] theorem field38_3 : fieldT Try.prog 38 3 = some (3, 1, 3) := by kernel_rfl
@[simp] theorem field38_4 : fieldT Try.prog 38 4 = some (4, 1, 9) := by kernel_rfl
@[simp] theorem field38_5 : fieldT Try.prog 38 5 = some (5, 1, 36) := by kernel_rfl
@[simp] theorem places38 : placesT Try.prog 38 = some [(0, 1), (1, 1), (2, 1), (3, 1), (4, 1), (5, 1)] := by kernel_rfl
@[simp] theorem zero38 : zeroT Try.prog 38 = some (.agg #[.int .i64 0, .int .i64 0, .int .i64 0, .int .i64 0, .string "".toByteArray, .slice none 0 0]) := by kernel_rfl
@[simp] theorem size39 : sizeT Try.prog 39 = some 1 := by kernel_rfl
@[simp] theorem bytes39 : bytesT Try.prog 39 = some 0 := by kernel_rfl
@[simp] theorem agg39 : aggT Try.prog 39 = some false := by kernel_rfl
@[simp] theorem kind39 : kindT Try.prog 39 = some .other := by kernel_rfl
@[simp] theorem size40 : sizeT Try.prog 40 = some 1 := by kernel_rfl
@[simp] theorem bytes40 : bytesT Try.prog 40 = some 8 := by kernel_rfl
@[simp] theorem agg40 : aggT Try.prog 40 = some false := by kernel_rfl
@[simp] theorem kind40 : kindT Try.prog 40 = some .func := by kernel_rfl
@[simp] theorem zero40 : zeroT Try.prog 40 = some (.nilFunc) := by kernel_rfl
@[simp] theorem size41 : sizeT Try.prog 41 = some 4 := by kernel_rfl
@[simp] theorem bytes41 : bytesT Try.prog 41 = some 40 := by kernel_rfl
@[simp] theorem agg41 : aggT Try.prog 41 = some true := by kernel_rfl
@[simp] theorem kind41 : kindT Try.prog 41 = some .struct := by kernel_rfl
@[simp] theorem field41_0 : fieldT Try.prog 41 0 = some (0, 1, 3) := by kernel_rfl
@[simp] theorem field41_1 : fieldT Try.prog 41 1 = some (1, 1, 3) := by kernel_rfl
@[simp] theorem field41_2 : fieldT Try.prog 41 2 = some (2, 1, 3) := by kernel_rfl
@[simp] theorem field41_3 : fieldT Try.prog 41 3 = some (3, 1, 9) := by kernel_rfl
@[simp] theorem places41 : placesT Try.prog 41 = some [(0, 1), (1, 1), (2, 1), (3, 1)] := by kernel_rfl
@[simp] theorem zero41 : zeroT Try.prog 41 = some (.agg #[.int .i64 0, .int .i64 0, .int .i64 0, .string "".toByteArray]) := by kernel_rfl
@[simp] theorem size42 : sizeT Try.prog 42 = some 4 := by kernel_rfl
@[simp] theorem bytes42 : bytesT Try.prog 42 = some 40 := by kernel_rfl
@[simp] theorem agg42 : aggT Try.prog 42 = some true := by kernel_rfl
@[simp] theorem kind42 : kindT Try.prog 42 = some .struct := by kernel_rfl
@[simp] theorem field42_0 : fieldT Try.prog 42 0 = some (0, 1, 3) := by kernel_rfl
@[simp] theorem field42_1 : fieldT Try.prog 42 1 = some (1, 1, 3) := by kernel_rfl
@[simp] theorem field42_2 : fieldT Try.prog 42 2 = some (2, 1, 3) := by kernel_rfl
@[simp] theorem field42_3 : fieldT Try.prog 42 3 = some (3, 1, 9) := by kernel_rfl
@[simp] theorem places42 : placesT Try.prog 42 = some [(0, 1), (1, 1), (2, 1), (3, 1)] := by kernel_rfl
@[simp] theorem zero42 : zeroT Try.prog 42 = some (.agg #[.int .i64 0, .int .i64 0, .int .i64 0, .string "".toByteArray]) := by kernel_rfl
@[simp] theorem size43 : sizeT Try.prog 43 = some 1 := by kernel_rfl
@[simp] theorem bytes43 : bytesT Try.prog 43 = some 8 := by kernel_rfl
@[simp] theorem agg43 : aggT Try.prog 43 = some false := by kernel_rfl
@[simp] theorem kind43 : kindT Try.prog 43 = some .func := by kernel_rfl
@[simp] theorem zero43 : zeroT Try.prog 43 = some (.nilFunc) := by kernel_rfl
@[simp] theorem size44 : sizeT Try.prog 44 = some 1 := by kernel_rfl
@[simp] theorem bytes44 : bytesT Try.prog 44 = some 8 := by kernel_rfl
@[simp] theorem agg44 : aggT Try.prog 44 = some false := by kernel_rfl
@[simp] theorem kind44 : kindT Try.prog 44 = some .func := by kernel_rfl
@[simp] theorem zero44 : zeroT Try.prog 44 = some (.nilFunc) := by kernel_rfl
@[simp] theorem size45 : sizeT Try.prog 45 = some 6 := by kernel_rfl
@[simp] theorem bytes45 : bytesT Try.prog 45 = some 96 := by kernel_rfl
@[simp] theorem agg45 : aggT Try.prog 45 = some true := by kernel_rfl
@[simp] theorem kind45 : kindT Try.prog 45 = some .array := by kernel_rfl
@[simp] theorem placesN45 : placesT Try.prog 45 = none := by kernel_rfl
@[simp] theorem arr45 : arrT Try.prog 45 = some (6, 9) := by kernel_rfl
@[simp] theorem zero45 : zeroT Try.prog 45 = some (.agg #[.string "".toByteArray, .string "".toByteArray, .string "".toByteArray, .string "".toByteArray, .string "".toByteArray, .string "".toByteArray]) := by kernel_rfl
@[simp] theorem size46 : sizeT Try.prog 46 = some 1 := by kernel_rfl
@[simp] theorem bytes46 : bytesT Try.prog 46 = some 8 := by kernel_rfl
@[simp] theorem agg46 : aggT Try.prog 46 = some false := by kernel_rfl
@[simp] theorem kind46 : kindT Try.prog 46 = some .func := by kernel_rfl
@[simp] theorem zero46 : zeroT Try.prog 46 = some (.nilFunc) := by kernel_rfl
@[simp] theorem size47 : sizeT Try.prog 47 = some 1 := by kernel_rfl
@[simp] theorem bytes47 : bytesT Try.prog 47 = some 8 := by kernel_rfl
@[simp] theorem agg47 : aggT Try.prog 47 = some false := by kernel_rfl
@[simp] theorem kind47 : kindT Try.prog 47 = some .func := by kernel_rfl
@[simp] theorem zero47 : zeroT Try.prog 47 = some (.nilFunc) := by kernel_rfl
@[simp] theorem size48 : sizeT Try.prog 48 = some 1 := by kernel_rfl
@[simp] theorem bytes48 : bytesT Try.prog 48 = some 8 := by kernel_rfl
@[simp] theorem agg48 : aggT Try.prog 48 = some false := by kernel_rfl
@[simp] theorem kind48 : kindT Try.prog 48 = some .func := by kernel_rfl
@[simp] theorem zero48 : zeroT Try.prog 48 = some (.nilFunc) := by kernel_rfl
@[simp] theorem size49 : sizeT Try.prog 49 = some 1 := by kernel_rfl
@[simp] theorem bytes49 : bytesT Try.prog 49 = some 0 := by kernel_rfl
@[simp] theorem agg49 : aggT Try.prog 49 = some false := by kernel_rfl
@[simp] theorem kind49 : kindT Try.prog 49 = some .other := by kernel_rfl
@[simp] theorem size50 : sizeT Try.prog 50 = some 1 := by kernel_rfl
@[simp] theorem bytes50 : bytesT Try.prog 50 = some 8 := by kernel_rfl
@[simp] theorem agg50 : aggT Try.prog 50 = some false := by kernel_rfl
@[simp] theorem kind50 : kindT Try.prog 50 = some .func := by kernel_rfl
@[simp] theorem zero50 : zeroT Try.prog 50 = some (.nilFunc) := by kernel_rfl
@[simp] theorem size51 : sizeT Try.prog 51 = some 1 := by kernel_rfl
@[simp] theorem bytes51 : bytesT Try.prog 51 = some 8 := by kernel_rfl
@[simp] theorem agg51 : aggT Try.prog 51 = some false := by kernel_rfl
@[simp] theorem kind51 : kindT Try.prog 51 = some .func := by kernel_rfl
@[simp] theorem zero51 : zeroT Try.prog 51 = some (.nilFunc) := by kernel_rfl
@[simp] theorem size52 : sizeT Try.prog 52 = some 1 := by kernel_rfl
@[simp] theorem bytes52 : bytesT Try.prog 52 = some 8 := by kernel_rfl
@[simp] theorem agg52 : aggT Try.prog 52 = some false := by kernel_rfl
@[simp] theorem kind52 : kindT Try.prog 52 = some .func := by kernel_rfl
@[simp] theorem zero52 : zeroT Try.prog 52 = some (.nilFunc) := by kernel_rfl
@[simp] theorem size53 : sizeT Try.prog 53 = some 1 := by kernel_rfl
@[simp] theorem bytes53 : bytesT Try.prog 53 = some 8 := by kernel_rfl
@[simp] theorem agg53 : aggT Try.prog 53 = some false := by kernel_rfl
@[simp] theorem kind53 : kindT Try.prog 53 = some .func := by kernel_rfl
@[simp] theorem zero53 : zeroT Try.prog 53 = some (.nilFunc) := by kernel_rfl
@[simp] theorem size54 : sizeT Try.prog 54 = some 1 := by kernel_rfl
@[simp] theorem bytes54 : bytesT Try.prog 54 = some 8 := by kernel_rfl
@[simp] theorem agg54 : aggT Try.prog 54 = some false := by kernel_rfl
@[simp] theorem kind54 : kindT Try.prog 54 = some .func := by kernel_rfl
@[simp] theorem zero54 : zeroT Try.prog 54 = some (.nilFunc) := by kernel_rfl
@[simp] theorem size55 : sizeT Try.prog 55 = some 1 := by kernel_rfl
@[simp] theorem bytes55 : bytesT Try.prog 55 = some 8 := by kernel_rfl
@[simp] theorem agg55 : aggT Try.prog 55 = some false := by kernel_rfl
@[simp] theorem kind55 : kindT Try.prog 55 = some .ptr := by kernel_rfl
@[simp] theorem zero55 : zeroT Try.prog 55 = some (.pointer none) := by kernel_rfl
@[simp] theorem size56 : sizeT Try.prog 56 = some 5 := by kernel_rfl
@[simp] theorem bytes56 : bytesT Try.prog 56 = some 56 := by kernel_rfl
@[simp] theorem agg56 : aggT Try.prog 56 = some true := by kernel_rfl
@[simp] theorem kind56 : kindT Try.prog 56 = some .struct := by kernel_rfl
@[simp] theorem field56_0 : fieldT Try.prog 56 0 = some (0, 1, 24) := by kernel_rfl
@[simp] theorem field56_1 : fieldT Try.prog 56 1 = some (1, 1, 3) := by kernel_rfl
@[simp] theorem field56_2 : fieldT Try.prog 56 2 = some (2, 1, 3) := by kernel_rfl
@[simp] theorem field56_3 : fieldT Try.prog 56 3 = some (3, 2, 27) := by kernel_rfl
@[simp] theorem places56 : placesT Try.prog 56 = some [(0, 1), (1, 1), (2, 1), (3, 2)] := by kernel_rfl
@[simp] theorem zero56 : zeroT Try.prog 56 = some (.agg #[.slice none 0 0, .int .i64 0, .int .i64 0, .int .i64 0, .int .i64 0]) := by kernel_rfl
@[simp] theorem size57 : sizeT Try.prog 57 = some 5 := by kernel_rfl
@[simp] theorem bytes57 : bytesT Try.prog 57 = some 56 := by kernel_rfl
@[simp] theorem agg57 : aggT Try.prog 57 = some true := by kernel_rfl
@[simp] theorem kind57 : kindT Try.prog 57 = some .struct := by kernel_rfl
@[simp] theorem field57_0 : fieldT Try.prog 57 0 = some (0, 1, 24) := by kernel_rfl
@[simp] theorem field57_1 : fieldT Try.prog 57 1 = some (1, 1, 3) := by kernel_rfl
@[simp] theorem field57_2 : fieldT Try.prog 57 2 = some (2, 1, 3) := by kernel_rfl
@[simp] theorem field57_3 : fieldT Try.prog 57 3 = some (3, 2, 27) := by kernel_rfl
@[simp] theorem places57 : placesT Try.prog 57 = some [(0, 1), (1, 1), (2, 1), (3, 2)] := by kernel_rfl
@[simp] theorem zero57 : zeroT Try.prog 57 = some (.agg #[.slice none 0 0, .int .i64 0, .int .i64 0, .int .i64 0, .int .i64 0]) := by kernel_rfl
@[simp] theorem size58 : sizeT Try.prog 58 = some 1 := by kernel_rfl
@[simp] theorem bytes58 : bytesT Try.prog 58 = some 8 := by kernel_rfl
@[simp] theorem agg58 : aggT Try.prog 58 = some false := by kernel_rfl
@[simp] theorem kind58 : kindT Try.prog 58 = some .func := by kernel_rfl
@[simp] theorem zero58 : zeroT Try.prog 58 = some (.nilFunc) := by kernel_rfl
@[simp] theorem size59 : sizeT Try.prog 59 = some 32 := by kernel_rfl
@[simp] theorem bytes59 : bytesT Try.prog 59 = some 512 := by kernel_rfl
@[simp] theorem agg59 : aggT Try.prog 59 = some true := by kernel_rfl
@[simp] theorem kind59 : kindT Try.prog 59 = some .array := by kernel_rfl
@[simp] theorem placesN59 : placesT Try.prog 59 = none := by kernel_rfl
@[simp] theorem arr59 : arrT Try.prog 59 = some (32, 9) := by kernel_rfl
@[simp] theorem zero59 : zeroT Try.prog 59 = some (.agg #[.string "".toByteArray, .string "".toByteArray, .string "".toByteArray, .string "".toByteArray, .string "".toByteArray, .string "".toByteArray, .string "".toByteArray, .string "".toByteArray, .string "".toByteArray, .string "".toByteArray, .string "".toByteArray, .string "".toByteArray, .string "".toByteArray, .string "".toByteArray, .string "".toByteArray, .string "".toByteArray, .string "".toByteArray, .string "".toByteArray, .string "".toByteArray, .string "".toByteArray, .string "".toByteArray, .string "".toByteArray, .string "".toByteArray, .string "".toByteArray, .string "".toByteArray, .string "".toByteArray, .string "".toByteArray, .string "".toByteArray, .string "".toByteArray, .string "".toByteArray, .string "".toByteArray, .string "".toByteArray]) := by kernel_rfl
@[simp] theorem size60 : sizeT Try.prog 60 = some 1 := by kernel_rfl
@[simp] theorem bytes60 : bytesT Try.prog 60 = some 8 := by kernel_rfl
@[simp] theorem agg60 : aggT Try.prog 60 = some false := by kernel_rfl
@[simp] theorem kind60 : kindT Try.prog 60 = some .ptr := by kernel_rfl
@[simp] theorem zero60 : zeroT Try.prog 60 = some (.pointer none) := by kernel_rfl
@[simp] theorem size61 : sizeT Try.prog 61 = some 4 := by kernel_rfl
@[simp] theorem bytes61 : bytesT Try.prog 61 = some 48 := by kernel_rfl
@[simp] theorem agg61 : aggT Try.prog 61 = some true := by kernel_rfl
@[simp] theorem kind61 : kindT Try.prog 61 = some .struct := by kernel_rfl
@[simp] theorem field61_0 : fieldT Try.prog 61 0 = some (0, 1, 24) := by kernel_rfl
@[simp] theorem field61_1 : fieldT Try.prog 61 1 = some (1, 1, 3) := by kernel_rfl
@[simp] theorem field61_2 : fieldT Try.prog 61 2 = some (2, 2, 27) := by kernel_rfl
@[simp] theorem places61 : placesT Try.prog 61 = some [(0, 1), (1, 1), (2, 2)] := by kernel_rfl
@[simp] theorem zero61 : zeroT Try.prog 61 = some (.agg #[.slice none 0 0, .int .i64 0, .int .i64 0, .int .i64 0]) := by kernel_rfl
@[simp] theorem size62 : sizeT Try.prog 62 = some 4 := by kernel_rfl
@[simp] theorem bytes62 : bytesT Try.prog 62 = some 48 := by kernel_rfl
@[simp] theorem agg62 : aggT Try.prog 62 = some true := by kernel_rfl
@[simp] theorem kind62 : kindT Try.prog 62 = some .struct := by kernel_rfl
@[simp] theorem field62_0 : fieldT Try.prog 62 0 = some (0, 1, 24) := by kernel_rfl
@[simp] theorem field62_1 : fieldT Try.prog 62 1 = some (1, 1, 3) := by kernel_rfl
@[simp] theorem field62_2 : fieldT Try.prog 62 2 = some (2, 2, 27) := by kernel_rfl
@[simp] theorem places62 : placesT Try.prog 62 = some [(0, 1), (1, 1), (2, 2)] := by kernel_rfl
@[simp] theorem zero62 : zeroT Try.prog 62 = some (.agg #[.slice none 0 0, .int .i64 0, .int .i64 0, .int .i64 0]) := by kernel_rfl
@[simp] theorem size63 : sizeT Try.prog 63 = some 1 := by kernel_rfl
@[simp] theorem bytes63 : bytesT Try.prog 63 = some 8 := by kernel_rfl
@[simp] theorem agg63 : aggT Try.prog 63 = some false := by kernel_rfl
@[simp] theorem kind63 : kindT Try.prog 63 = some .func := by kernel_rfl
@[simp] theorem zero63 : zeroT Try.prog 63 = some (.nilFunc) := by kernel_rfl
@[simp] theorem size64 : sizeT Try.prog 64 = some 1 := by kernel_rfl
@[simp] theorem bytes64 : bytesT Try.prog 64 = some 8 := by kernel_rfl
@[simp] theorem agg64 : aggT Try.prog 64 = some false := by kernel_rfl
@[simp] theorem kind64 : kindT Try.prog 64 = some .func := by kernel_rfl
@[simp] theorem zero64 : zeroT Try.prog 64 = some (.nilFunc) := by kernel_rfl
@[simp] theorem size65 : sizeT Try.prog 65 = some 1 := by kernel_rfl
@[simp] theorem bytes65 : bytesT Try.prog 65 = some 8 := by kernel_rfl
@[simp] theorem agg65 : aggT Try.prog 65 = some false := by kernel_rfl
@[simp] theorem kind65 : kindT Try.prog 65 = some .func := by kernel_rfl
@[simp] theorem zero65 : zeroT Try.prog 65 = some (.nilFunc) := by kernel_rfl
@[simp] theorem size66 : sizeT Try.prog 66 = some 1 := by kernel_rfl
@[simp] theorem bytes66 : bytesT Try.prog 66 = some 8 := by kernel_rfl
@[simp] theorem agg66 : aggT Try.prog 66 = some false := by kernel_rfl
@[simp] theorem kind66 : kindT Try.prog 66 = some .func := by kernel_rfl
@[simp] theorem zero66 : zeroT Try.prog 66 = some (.nilFunc) := by kernel_rfl
@[simp] theorem size67 : sizeT Try.prog 67 = some 1 := by kernel_rfl
@[simp] theorem bytes67 : bytesT Try.prog 67 = some 8 := by kernel_rfl
@[simp] theorem agg67 : aggT Try.prog 67 = some false := by kernel_rfl
@[simp] theorem kind67 : kindT Try.prog 67 = some .func := by kernel_rfl
@[simp] theorem zero67 : zeroT Try.prog 67 = some (.nilFunc) := by kernel_rfl
@[simp] theorem size68 : sizeT Try.prog 68 = some 1 := by kernel_rfl
@[simp] theorem bytes68 : bytesT Try.prog 68 = some 8 := by kernel_rfl
@[simp] theorem agg68 : aggT Try.prog 68 = some false := by kernel_rfl
@[simp] theorem kind68 : kindT Try.prog 68 = some .func := by kernel_rfl
@[simp] theorem zero68 : zeroT Try.prog 68 = some (.nilFunc) := by kernel_rfl
@[simp] theorem size69 : sizeT Try.prog 69 = some 1 := by kernel_rfl
@[simp] theorem bytes69 : bytesT Try.prog 69 = some 8 := by kernel_rfl
@[simp] theorem agg69 : aggT Try.prog 69 = some false := by kernel_rfl
@[simp] theorem kind69 : kindT Try.prog 69 = some .func := by kernel_rfl
@[simp] theorem zero69 : zeroT Try.prog 69 = some (.nilFunc) := by kernel_rfl
@[simp] theorem size70 : sizeT Try.prog 70 = some 1 := by kernel_rfl
@[simp] theorem bytes70 : bytesT Try.prog 70 = some 8 := by kernel_rfl
@[simp] theorem agg70 : aggT Try.prog 70 = some false := by kernel_rfl
@[simp] theorem kind70 : kindT Try.prog 70 = some .func := by kernel_rfl
@[simp] theorem zero70 : zeroT Try.prog 70 = some (.nilFunc) := by kernel_rfl
@[simp] theorem size71 : sizeT Try.prog 71 = some 1 := by kernel_rfl
@[simp] theorem bytes71 : bytesT Try.prog 71 = some 8 := by kernel_rfl
@[simp] theorem agg71 : aggT Try.prog 71 = some false := by kernel_rfl
@[simp] theorem kind71 : kindT Try.prog 71 = some .func := by kernel_rfl
@[simp] theorem zero71 : zeroT Try.prog 71 = some (.nilFunc) := by kernel_rfl
@[simp] theorem size72 : sizeT Try.prog 72 = some 1 := by kernel_rfl
@[simp] theorem bytes72 : bytesT Try.prog 72 = some 8 := by kernel_rfl
@[simp] theorem agg72 : aggT Try.prog 72 = some false := by kernel_rfl
@[simp] theorem kind72 : kindT Try.prog 72 = some .func := by kernel_rfl
@[simp] theorem zero72 : zeroT Try.prog 72 = some (.nilFunc) := by kernel_rfl
@[simp] theorem size73 : sizeT Try.prog 73 = some 1 := by kernel_rfl
@[simp] theorem bytes73 : bytesT Try.prog 73 = some 8 := by kernel_rfl
@[simp] theorem agg73 : aggT Try.prog 73 = some false := by kernel_rfl
@[simp] theorem kind73 : kindT Try.prog 73 = some .func := by kernel_rfl
@[simp] theorem zero73 : zeroT Try.prog 73 = some (.nilFunc) := by kernel_rfl
@[simp] theorem size74 : sizeT Try.prog 74 = some 13 := by kernel_rfl
@[simp] theorem bytes74 : bytesT Try.prog 74 = some 208 := by kernel_rfl
@[simp] theorem agg74 : aggT Try.prog 74 = some true := by kernel_rfl
@[simp] theorem kind74 : kindT Try.prog 74 = some .array := by kernel_rfl
@[simp] theorem placesN74 : placesT Try.prog 74 = none := by kernel_rfl
@[simp] theorem arr74 : arrT Try.prog 74 = some (13, 9) := by kernel_rfl
@[simp] theorem zero74 : zeroT Try.prog 74 = some (.agg #[.string "".toByteArray, .string "".toByteArray, .string "".toByteArray, .string "".toByteArray, .string "".toByteArray, .string "".toByteArray, .string "".toByteArray, .string "".toByteArray, .string "".toByteArray, .string "".toByteArray, .string "".toByteArray, .string "".toByteArray, .string "".toByteArray]) := by kernel_rfl
@[simp] theorem size75 : sizeT Try.prog 75 = some 13 := by kernel_rfl
@[simp] theorem bytes75 : bytesT Try.prog 75 = some 104 := by kernel_rfl
@[simp] theorem agg75 : aggT Try.prog 75 = some true := by kernel_rfl
@[simp] theorem kind75 : kindT Try.prog 75 = some .array := by kernel_rfl
@[simp] theorem placesN75 : placesT Try.prog 75 = none := by kernel_rfl
@[simp] theorem arr75 : arrT Try.prog 75 = some (13, 3) := by kernel_rfl
@[simp] theorem zero75 : zeroT Try.prog 75 = some (.agg #[.int .i64 0, .int .i64 0, .int .i64 0, .int .i64 0, .int .i64 0, .int .i64 0, .int .i64 0, .int .i64 0, .int .i64 0, .int .i64 0, .int .i64 0, .int .i64 0, .int .i64 0]) := by kernel_rfl
@[simp] theorem size76 : sizeT Try.prog 76 = some 1 := by kernel_rfl
@[simp] theorem bytes76 : bytesT Try.prog 76 = some 8 := by kernel_rfl
@[simp] theorem agg76 : aggT Try.prog 76 = some false := by kernel_rfl
@[simp] theorem kind76 : kindT Try.prog 76 = some .func := by kernel_rfl
@[simp] theorem zero76 : zeroT Try.prog 76 = some (.nilFunc) := by kernel_rfl
@[simp] theorem size77 : sizeT Try.prog 77 = some 1 := by kernel_rfl
@[simp] theorem bytes77 : bytesT Try.prog 77 = some 8 := by kernel_rfl
@[simp] theorem agg77 : aggT Try.prog 77 = some false := by kernel_rfl
@[simp] theorem kind77 : kindT Try.prog 77 = some .func := by kernel_rfl
@[simp] theorem zero77 : zeroT Try.prog 77 = some (.nilFunc) := by kernel_rfl
@[simp] theorem size78 : sizeT Try.prog 78 = some 1 := by kernel_rfl
@[simp] theorem bytes78 : bytesT Try.prog 78 = some 8 := by kernel_rfl
@[simp] theorem agg78 : aggT Try.prog 78 = some false := by kernel_rfl
@[simp] theorem kind78 : kindT Try.prog 78 = some .func := by kernel_rfl
@[simp] theorem zero78 : zeroT Try.prog 78 = some (.nilFunc) := by kernel_rfl
@[simp] theorem size79 : sizeT Try.prog 79 = some 1 := by kernel_rfl
@[simp] theorem bytes79 : bytesT Try.prog 79 = some 8 := by kernel_rfl
@[simp] theorem agg79 : aggT Try.prog 79 = some false := by kernel_rfl
@[simp] theorem kind79 : kindT Try.prog 79 = some .func := by kernel_rfl
@[simp] theorem zero79 : zeroT Try.prog 79 = some (.nilFunc) := by kernel_rfl
@[simp] theorem size80 : sizeT Try.prog 80 = some 1 := by kernel_rfl
@[simp] theorem bytes80 : bytesT Try.prog 80 = some 8 := by kernel_rfl
@[simp] theorem agg80 : aggT Try.prog 80 = some false := by kernel_rfl
@[simp] theorem kind80 : kindT Try.prog 80 = some .func := by kernel_rfl
@[simp] theorem zero80 : zeroT Try.prog 80 = some (.nilFunc) := by kernel_rfl
@[simp] theorem size81 : sizeT Try.prog 81 = some 1 := by kernel_rfl
@[simp] theorem bytes81 : bytesT Try.prog 81 = some 8 := by kernel_rfl
@[simp] theorem agg81 : aggT Try.prog 81 = some false := by kernel_rfl
@[simp] theorem kind81 : kindT Try.prog 81 = some .func := by kernel_rfl
@[simp] theorem zero81 : zeroT Try.prog 81 = some (.nilFunc) := by kernel_rfl
@[simp] theorem size82 : sizeT Try.prog 82 = some 4 := by kernel_rfl
@[simp] theorem bytes82 : bytesT Try.prog 82 = some 40 := by kernel_rfl
@[simp] theorem agg82 : aggT Try.prog 82 = some true := by kernel_rfl
@[simp] theorem kind82 : kindT Try.prog 82 = some .struct := by kernel_rfl
@[simp] theorem field82_0 : fieldT Try.prog 82 0 = some (0, 1, 17) := by kernel_rfl
@[simp] theorem field82_1 : fieldT Try.prog 82 1 = some (1, 1, 17) := by kernel_rfl
@[simp] theorem field82_2 : fieldT Try.prog 82 2 = some (2, 1, 17) := by kernel_rfl
@[simp] theorem field82_3 : fieldT Try.prog 82 3 = some (3, 1, 9) := by kernel_rfl
@[simp] theorem places82 : placesT Try.prog 82 = some [(0, 1), (1, 1), (2, 1), (3, 1)] := by kernel_rfl
@[simp] theorem zero82 : zeroT Try.prog 82 = some (.agg #[.pointer none, .pointer none, .pointer none, .string "".toByteArray]) := by kernel_rfl
@[simp] theorem size83 : sizeT Try.prog 83 = some 4 := by kernel_rfl
@[simp] theorem bytes83 : bytesT Try.prog 83 = some 40 := by kernel_rfl
@[simp] theorem agg83 : aggT Try.prog 83 = some true := by kernel_rfl
@[simp] theorem kind83 : kindT Try.prog 83 = some .struct := by kernel_rfl
@[simp] theorem field83_0 : fieldT Try.prog 83 0 = some (0, 1, 17) := by kernel_rfl
@[simp] theorem field83_1 : fieldT Try.prog 83 1 = some (1, 1, 17) := by kernel_rfl
@[simp] theorem field83_2 : fieldT Try.prog 83 2 = some (2, 1, 17) := by kernel_rfl
@[simp] theorem field83_3 : fieldT Try.prog 83 3 = some (3, 1, 9) := by kernel_rfl
@[simp] theorem places83 : placesT Try.prog 83 = some [(0, 1), (1, 1), (2, 1), (3, 1)] := by kernel_rfl
@[simp] theorem zero83 : zeroT Try.prog 83 = some (.agg #[.pointer none, .pointer none, .pointer none, .string "".toByteArray]) := by kernel_rfl
@[simp] theorem size84 : sizeT Try.prog 84 = some 0 := by kernel_rfl
@[simp] theorem bytes84 : bytesT Try.prog 84 = some 0 := by kernel_rfl
@[simp] theorem agg84 : aggT Try.prog 84 = some true := by kernel_rfl
@[simp] theorem kind84 : kindT Try.prog 84 = some .array := by kernel_rfl
@[simp] theorem placesN84 : placesT Try.prog 84 = none := by kernel_rfl
@[simp] theorem arr84 : arrT Try.prog 84 = some (0, 16) := by kernel_rfl
@[simp] theorem zero84 : zeroT Try.prog 84 = some (.agg #[]) := by kernel_rfl
@[simp] theorem size85 : sizeT Try.prog 85 = some 0 := by kernel_rfl
@[simp] theorem bytes85 : bytesT Try.prog 85 = some 0 := by kernel_rfl
@[simp] theorem agg85 : aggT Try.prog 85 = some true := by kernel_rfl
@[simp] theorem kind85 : kindT Try.prog 85 = some .struct := by kernel_rfl
@[simp] theorem field85_0 : fieldT Try.prog 85 0 = some (0, 0, 84) := by kernel_rfl
@[simp] theorem places85 : placesT Try.prog 85 = some [(0, 0)] := by kernel_rfl
@[simp] theorem zero85 : zeroT Try.prog 85 = some (.agg #[]) := by kernel_rfl
@[simp] theorem size86 : sizeT Try.prog 86 = some 0 := by kernel_rfl
@[simp] theorem bytes86 : bytesT Try.prog 86 = some 0 := by kernel_rfl
@[simp] theorem agg86 : aggT Try.prog 86 = some true := by kernel_rfl
@[simp] theorem kind86 : kindT Try.prog 86 = some .struct := by kernel_rfl
@[simp] theorem field86_0 : fieldT Try.prog 86 0 = some (0, 0, 84) := by kernel_rfl
@[simp] theorem places86 : placesT Try.prog 86 = some [(0, 0)] := by kernel_rfl
@[simp] theorem zero86 : zeroT Try.prog 86 = some (.agg #[]) := by kernel_rfl
@[simp] theorem size87 : sizeT Try.prog 87 = some 1 := by kernel_rfl
@[simp] theorem bytes87 : bytesT Try.prog 87 = some 8 := by kernel_rfl
@[simp] theorem agg87 : aggT Try.prog 87 = some false := by kernel_rfl
@[simp] theorem kind87 : kindT Try.prog 87 = some .func := by kernel_rfl
@[simp] theorem zero87 : zeroT Try.prog 87 = some (.nilFunc) := by kernel_rfl
@[simp] theorem size88 : sizeT Try.prog 88 = some 1 := by kernel_rfl
@[simp] theorem bytes88 : bytesT Try.prog 88 = some 4 := by kernel_rfl
@[simp] theorem agg88 : aggT Try.prog 88 = some false := by kernel_rfl
@[simp] theorem kind88 : kindT Try.prog 88 = some (.int .u32) := by kernel_rfl
@[simp] theorem zero88 : zeroT Try.prog 88 = some (.int .u32 0) := by kernel_rfl
@[simp] theorem size89 : sizeT Try.prog 89 = some 1 := by kernel_rfl
@[simp] theorem bytes89 : bytesT Try.prog 89 = some 1 := by kernel_rfl
@[simp] theorem agg89 : aggT Try.prog 89 = some false := by kernel_rfl
@[simp] theorem kind89 : kindT Try.prog 89 = some (.int .u8) := by kernel_rfl
@[simp] theorem zero89 : zeroT Try.prog 89 = some (.int .u8 0) := by kernel_rfl
@[simp] theorem size90 : sizeT Try.prog 90 = some 1 := by kernel_rfl
@[simp] theorem bytes90 : bytesT Try.prog 90 = some 1 := by kernel_rfl
@[simp] theorem agg90 : aggT Try.prog 90 = some false := by kernel_rfl
@[simp] theorem kind90 : kindT Try.prog 90 = some (.int .u8) := by kernel_rfl
@[simp] theorem zero90 : zeroT Try.prog 90 = some (.int .u8 0) := by kernel_rfl
@[simp] theorem size91 : sizeT Try.prog 91 = some 1 := by kernel_rfl
@[simp] theorem bytes91 : bytesT Try.prog 91 = some 8 := by kernel_rfl
@[simp] theorem agg91 : aggT Try.prog 91 = some false := by kernel_rfl
@[simp] theorem kind91 : kindT Try.prog 91 = some .func := by kernel_rfl
@[simp] theorem zero91 : zeroT Try.prog 91 = some (.nilFunc) := by kernel_rfl
@[simp] theorem size92 : sizeT Try.prog 92 = some 1 := by kernel_rfl
@[simp] theorem bytes92 : bytesT Try.prog 92 = some 8 := by kernel_rfl
@[simp] theorem agg92 : aggT Try.prog 92 = some false := by kernel_rfl
@[simp] theorem kind92 : kindT Try.prog 92 = some .ptr := by kernel_rfl
@[simp] theorem zero92 : zeroT Try.prog 92 = some (.pointer none) := by kernel_rfl
@[simp] theorem size93 : sizeT Try.prog 93 = some 1 := by kernel_rfl
@[simp] theorem bytes93 : bytesT Try.prog 93 = some 4 := by kernel_rfl
@[simp] theorem agg93 : aggT Try.prog 93 = some false := by kernel_rfl
@[simp] theorem kind93 : kindT Try.prog 93 = some (.int .i32) := by kernel_rfl
@[simp] theorem zero93 : zeroT Try.prog 93 = some (.int .i32 0) := by kernel_rfl
@[simp] theorem size94 : sizeT Try.prog 94 = some 1 := by kernel_rfl
@[simp] theorem bytes94 : bytesT Try.prog 94 = some 4 := by kernel_rfl
@[simp] theorem agg94 : aggT Try.prog 94 = some false := by kernel_rfl
@[simp] theorem kind94 : kindT Try.prog 94 = some (.int .i32) := by kernel_rfl
@[simp] theorem zero94 : zeroT Try.prog 94 = some (.int .i32 0) := by kernel_rfl
@[simp] theorem size95 : sizeT Try.prog 95 = some 11 := by kernel_rfl
@[simp] theorem bytes95 : bytesT Try.prog 95 = some 48 := by kernel_rfl
@[simp] theorem agg95 : aggT Try.prog 95 = some true := by kernel_rfl
@[simp] theorem kind95 : kindT Try.prog 95 = some .struct := by kernel_rfl
@[simp] theorem field95_0 : fieldT Try.prog 95 0 = some (0, 1, 12) := by kernel_rfl
@[simp] theorem field95_1 : fieldT Try.prog 95 1 = some (1, 1, 12) := by kernel_rfl
@[simp] theorem field95_2 : fieldT Try.prog 95 2 = some (2, 1, 88) := by kernel_rfl
@[simp] theorem field95_3 : fieldT Try.prog 95 3 = some (3, 1, 89) := by kernel_rfl
@[simp] theorem field95_4 : fieldT Try.prog 95 4 = some (4, 1, 5) := by kernel_rfl
@[simp] theorem field95_5 : fieldT Try.prog 95 5 = some (5, 1, 5) := by kernel_rfl
@[simp] theorem field95_6 : fieldT Try.prog 95 6 = some (6, 1, 90) := by kernel_rfl
@[simp] theorem field95_7 : fieldT Try.prog 95 7 = some (7, 1, 91) := by kernel_rfl
@[simp] theorem field95_8 : fieldT Try.prog 95 8 = some (8, 1, 92) := by kernel_rfl
@[simp] theorem field95_9 : fieldT Try.prog 95 9 = some (9, 1, 93) := by kernel_rfl
@[simp] theorem field95_10 : fieldT Try.prog 95 10 = some (10, 1, 94) := by kernel_rfl
@[simp] theorem places95 : placesT Try.prog 95 = some [(0, 1), (1, 1), (2, 1), (3, 1), (4, 1), (5, 1), (6, 1), (7, 1), (8, 1), (9, 1), (10, 1)] := by kernel_rfl
@[simp] theorem zero95 : zeroT Try.prog 95 = some (.agg #[.int .u64 0, .int .u64 0, .int .u32 0, .int .u8 0, .int .u8 0, .int .u8 0, .int .u8 0, .nilFunc, .pointer none, .int .i32 0, .int .i32 0]) := by kernel_rfl
@[simp] theorem size96 : sizeT Try.prog 96 = some 11 := by kernel_rfl
@[simp] theorem bytes96 : bytesT Try.prog 96 = some 48 := by kernel_rfl
@[simp] theorem agg96 : aggT Try.prog 96 = some true := by kernel_rfl
@[simp] theorem kind96 : kindT Try.prog 96 = some .struct := by kernel_rfl
@[simp] theorem field96_0 : fieldT Try.prog 96 0 = some (0, 1, 12) := by kernel_rfl
@[simp] theorem field96_1 : fieldT Try.prog 96 1 = some (1, 1, 12) := by kernel_rfl
@[simp] theorem field96_2 : fieldT Try.prog 96 2 = some (2, 1, 88) := by kernel_rfl
@[simp] theorem field96_3 : fieldT Try.prog 96 3 = some (3, 1, 89) := by kernel_rfl
@[simp] theorem field96_4 : fieldT Try.prog 96 4 = some (4, 1, 5) := by kernel_rfl
@[simp] theorem field96_5 : fieldT Try.prog 96 5 = some (5, 1, 5) := by kernel_rfl
@[simp] theorem field96_6 : fieldT Try.prog 96 6 = some (6, 1, 90) := by kernel_rfl
@[simp] theorem field96_7 : fieldT Try.prog 96 7 = some (7, 1, 91) := by kernel_rfl
@[simp] theorem field96_8 : fieldT Try.prog 96 8 = some (8, 1, 92) := by kernel_rfl
@[simp] theorem field96_9 : fieldT Try.prog 96 9 = some (9, 1, 93) := by kernel_rfl
@[simp] theorem field96_10 : fieldT Try.prog 96 10 = some (10, 1, 94) := by kernel_rfl
@[simp] theorem places96 : placesT Try.prog 96 = some [(0, 1), (1, 1), (2, 1), (3, 1), (4, 1), (5, 1), (6, 1), (7, 1), (8, 1), (9, 1), (10, 1)] := by kernel_rfl
@[simp] theorem zero96 : zeroT Try.prog 96 = some (.agg #[.int .u64 0, .int .u64 0, .int .u32 0, .int .u8 0, .int .u8 0, .int .u8 0, .int .u8 0, .nilFunc, .pointer none, .int .i32 0, .int .i32 0]) := by kernel_rfl
@[simp] theorem size97 : sizeT Try.prog 97 = some 1 := by kernel_rfl
@[simp] theorem bytes97 : bytesT Try.prog 97 = some 8 := by kernel_rfl
@[simp] theorem agg97 : aggT Try.prog 97 = some false := by kernel_rfl
@[simp] theorem kind97 : kindT Try.prog 97 = some .other := by kernel_rfl
@[simp] theorem zero97 : zeroT Try.prog 97 = some (.pointer none) := by kernel_rfl
end Go.Vm
