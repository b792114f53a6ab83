/- What is proved: the facts of the program's types, as the machine asks for them. -/
import Derived.Test.YthodeippnckeoaaProg
import Derived.Test.YthodeippnckeoaaVmJ
namespace Go.Vm
open Go.Proofs
set_option maxRecDepth 100000
@[simp] theorem size0 : sizeT Try.prog 0 = some 1 := by kernel_rfl
@[simp] theorem bytes0 : bytesT Try.prog 0 = some 0 := by kernel_rfl
@[simp] theorem agg0 : aggT Try.prog 0 = some false := by kernel_rfl
@[simp] theorem kind0 : kindT Try.prog 0 = some .other := by kernel_rfl
@[simp] theorem size1 : sizeT Try.prog 1 = some 1 := by kernel_rfl
@[simp] theorem bytes1 : bytesT Try.prog 1 = some 8 := by kernel_rfl
@[simp] theorem agg1 : aggT Try.prog 1 = some false := by kernel_rfl
@[simp] theorem kind1 : kindT Try.prog 1 = some .func := by kernel_rfl
@[simp] theorem zero1 : zeroT Try.prog 1 = some (.nilFunc) := by kernel_rfl
@[simp] theorem size2 : sizeT Try.prog 2 = some 1 := by kernel_rfl
@[simp] theorem bytes2 : bytesT Try.prog 2 = some 8 := by kernel_rfl
@[simp] theorem agg2 : aggT Try.prog 2 = some false := by kernel_rfl
@[simp] theorem kind2 : kindT Try.prog 2 = some (.int .i64) := by kernel_rfl
@[simp] theorem zero2 : zeroT Try.prog 2 = some (.int .i64 0) := by kernel_rfl
@[simp] theorem size3 : sizeT Try.prog 3 = some 1 := by kernel_rfl
@[simp] theorem bytes3 : bytesT Try.prog 3 = some 8 := by kernel_rfl
@[simp] theorem agg3 : aggT Try.prog 3 = some false := by kernel_rfl
@[simp] theorem kind3 : kindT Try.prog 3 = some (.int .i64) := by kernel_rfl
@[simp] theorem zero3 : zeroT Try.prog 3 = some (.int .i64 0) := by kernel_rfl
@[simp] theorem size4 : sizeT Try.prog 4 = some 1 := by kernel_rfl
@[simp] theorem bytes4 : bytesT Try.prog 4 = some 1 := by kernel_rfl
@[simp] theorem agg4 : aggT Try.prog 4 = some false := by kernel_rfl
@[simp] theorem kind4 : kindT Try.prog 4 = some .bool := by kernel_rfl
@[simp] theorem zero4 : zeroT Try.prog 4 = some (.bool false) := by kernel_rfl
@[simp] theorem size5 : sizeT Try.prog 5 = some 1 := by kernel_rfl
@[simp] theorem bytes5 : bytesT Try.prog 5 = some 1 := by kernel_rfl
@[simp] theorem agg5 : aggT Try.prog 5 = some false := by kernel_rfl
@[simp] theorem kind5 : kindT Try.prog 5 = some (.int .u8) := by kernel_rfl
@[simp] theorem zero5 : zeroT Try.prog 5 = some (.int .u8 0) := by kernel_rfl
@[simp] theorem size6 : sizeT Try.prog 6 = some 1 := by kernel_rfl
@[simp] theorem bytes6 : bytesT Try.prog 6 = some 1 := by kernel_rfl
@[simp] theorem agg6 : aggT Try.prog 6 = some false := by kernel_rfl
@[simp] theorem kind6 : kindT Try.prog 6 = some (.int .u8) := by kernel_rfl
@[simp] theorem zero6 : zeroT Try.prog 6 = some (.int .u8 0) := by kernel_rfl
@[simp] theorem size7 : sizeT Try.prog 7 = some 4 := by kernel_rfl
@[simp] theorem bytes7 : bytesT Try.prog 7 = some 24 := by kernel_rfl
@[simp] theorem agg7 : aggT Try.prog 7 = some true := by kernel_rfl
@[simp] theorem kind7 : kindT Try.prog 7 = some .struct := by kernel_rfl
@[simp] theorem field7_0 : fieldT Try.prog 7 0 = some (0, 1, 2) := by kernel_rfl
@[simp] theorem field7_1 : fieldT Try.prog 7 1 = some (1, 1, 3) := by kernel_rfl
@[simp] theorem field7_2 : fieldT Try.prog 7 2 = some (2, 1, 4) := by kernel_rfl
@[simp] theorem field7_3 : fieldT Try.prog 7 3 = some (3, 1, 6) := by kernel_rfl
@[simp] theorem places7 : placesT Try.prog 7 = some [(0, 1), (1, 1), (2, 1), (3, 1)] := by kernel_rfl
@[simp] theorem zero7 : zeroT Try.prog 7 = some (.agg #[.int .i64 0, .int .i64 0, .bool false, .int .u8 0]) := by kernel_rfl
@[simp] theorem size8 : sizeT Try.prog 8 = some 4 := by kernel_rfl
@[simp] theorem bytes8 : bytesT Try.prog 8 = some 24 := by kernel_rfl
@[simp] theorem agg8 : aggT Try.prog 8 = some true := by kernel_rfl
@[simp] theorem kind8 : kindT Try.prog 8 = some .struct := by kernel_rfl
@[simp] theorem field8_0 : fieldT Try.prog 8 0 = some (0, 1, 2) := by kernel_rfl
@[simp] theorem field8_1 : fieldT Try.prog 8 1 = some (1, 1, 3) := by kernel_rfl
@[simp] theorem field8_2 : fieldT Try.prog 8 2 = some (2, 1, 4) := by kernel_rfl
@[simp] theorem field8_3 : fieldT Try.prog 8 3 = some (3, 1, 6) := by kernel_rfl
@[simp] theorem places8 : placesT Try.prog 8 = some [(0, 1), (1, 1), (2, 1), (3, 1)] := by kernel_rfl
@[simp] theorem zero8 : zeroT Try.prog 8 = some (.agg #[.int .i64 0, .int .i64 0, .bool false, .int .u8 0]) := by kernel_rfl
@[simp] theorem size9 : sizeT Try.prog 9 = some 1 := by kernel_rfl
@[simp] theorem bytes9 : bytesT Try.prog 9 = some 16 := by kernel_rfl
@[simp] theorem agg9 : aggT Try.prog 9 = some false := by kernel_rfl
@[simp] theorem kind9 : kindT Try.prog 9 = some .string := by kernel_rfl
@[simp] theorem zero9 : zeroT Try.prog 9 = some (.string "".toByteArray) := by kernel_rfl
@[simp] theorem size10 : sizeT Try.prog 10 = some 1 := by kernel_rfl
@[simp] theorem bytes10 : bytesT Try.prog 10 = some 16 := by kernel_rfl
@[simp] theorem agg10 : aggT Try.prog 10 = some false := by kernel_rfl
@[simp] theorem kind10 : kindT Try.prog 10 = some .string := by kernel_rfl
@[simp] theorem zero10 : zeroT Try.prog 10 = some (.string "".toByteArray) := by kernel_rfl
@[simp] theorem size11 : sizeT Try.prog 11 = some 1 := by kernel_rfl
@[simp] theorem bytes11 : bytesT Try.prog 11 = some 16 := by kernel_rfl
@[simp] theorem agg11 : aggT Try.prog 11 = some false := by kernel_rfl
@[simp] theorem kind11 : kindT Try.prog 11 = some .string := by kernel_rfl
@[simp] theorem zero11 : zeroT Try.prog 11 = some (.string "".toByteArray) := by kernel_rfl
@[simp] theorem size12 : sizeT Try.prog 12 = some 1 := by kernel_rfl
@[simp] theorem bytes12 : bytesT Try.prog 12 = some 8 := by kernel_rfl
@[simp] theorem agg12 : aggT Try.prog 12 = some false := by kernel_rfl
@[simp] theorem kind12 : kindT Try.prog 12 = some (.int .u64) := by kernel_rfl
@[simp] theorem zero12 : zeroT Try.prog 12 = some (.int .u64 0) := by kernel_rfl
@[simp] theorem size13 : sizeT Try.prog 13 = some 2 := by kernel_rfl
@[simp] theorem bytes13 : bytesT Try.prog 13 = some 24 := by kernel_rfl
@[simp] theorem agg13 : aggT Try.prog 13 = some true := by kernel_rfl
@[simp] theorem kind13 : kindT Try.prog 13 = some .struct := by kernel_rfl
@[simp] theorem field13_0 : fieldT Try.prog 13 0 = some (0, 1, 9) := by kernel_rfl
@[simp] theorem field13_1 : fieldT Try.prog 13 1 = some (1, 1, 12) := by kernel_rfl
@[simp] theorem places13 : placesT Try.prog 13 = some [(0, 1), (1, 1)] := by kernel_rfl
@[simp] theorem zero13 : zeroT Try.prog 13 = some (.agg #[.string "".toByteArray, .int .u64 0]) := by kernel_rfl
@[simp] theorem size14 : sizeT Try.prog 14 = some 2 := by kernel_rfl
@[simp] theorem bytes14 : bytesT Try.prog 14 = some 24 := by kernel_rfl
@[simp] theorem agg14 : aggT Try.prog 14 = some true := by kernel_rfl
@[simp] theorem kind14 : kindT Try.prog 14 = some .struct := by kernel_rfl
@[simp] theorem field14_0 : fieldT Try.prog 14 0 = some (0, 1, 9) := by kernel_rfl
@[simp] theorem field14_1 : fieldT Try.prog 14 1 = some (1, 1, 12) := by kernel_rfl
@[simp] theorem places14 : placesT Try.prog 14 = some [(0, 1), (1, 1)] := by kernel_rfl
@[simp] theorem zero14 : zeroT Try.prog 14 = some (.agg #[.string "".toByteArray, .int .u64 0]) := by kernel_rfl
@[simp] theorem size15 : sizeT Try.prog 15 = some 1 := by kernel_rfl
@[simp] theorem bytes15 : bytesT Try.prog 15 = some 8 := by kernel_rfl
@[simp] theorem agg15 : aggT Try.prog 15 = some false := by kernel_rfl
@[simp] theorem kind15 : kindT Try.prog 15 = some .ptr := by kernel_rfl
@[simp] theorem zero15 : zeroT Try.prog 15 = some (.pointer none) := by kernel_rfl
@[simp] theorem size16 : sizeT Try.prog 16 = some 1 := by kernel_rfl
@[simp] theorem bytes16 : bytesT Try.prog 16 = some 8 := by kernel_rfl
@[simp] theorem agg16 : aggT Try.prog 16 = some false := by kernel_rfl
@[simp] theorem kind16 : kindT Try.prog 16 = some .ptr := by kernel_rfl
@[simp] theorem zero16 : zeroT Try.prog 16 = some (.pointer none) := by kernel_rfl
@[simp] theorem size17 : sizeT Try.prog 17 = some 1 := by kernel_rfl
@[simp] theorem bytes17 : bytesT Try.prog 17 = some 8 := by kernel_rfl
@[simp] theorem agg17 : aggT Try.prog 17 = some false := by kernel_rfl
@[simp] theorem kind17 : kindT Try.prog 17 = some .ptr := by kernel_rfl
@[simp] theorem zero17 : zeroT Try.prog 17 = some (.pointer none) := by kernel_rfl
@[simp] theorem size18 : sizeT Try.prog 18 = some 1 := by kernel_rfl
@[simp] theorem bytes18 : bytesT Try.prog 18 = some 8 := by kernel_rfl
@[simp] theorem agg18 : aggT Try.prog 18 = some true := by kernel_rfl
@[simp] theorem kind18 : kindT Try.prog 18 = some .struct := by kernel_rfl
@[simp] theorem field18_0 : fieldT Try.prog 18 0 = some (0, 1, 17) := by kernel_rfl
@[simp] theorem places18 : placesT Try.prog 18 = some [(0, 1)] := by kernel_rfl
@[simp] theorem zero18 : zeroT Try.prog 18 = some (.agg #[.pointer none]) := by kernel_rfl
@[simp] theorem size19 : sizeT Try.prog 19 = some 1 := by kernel_rfl
@[simp] theorem bytes19 : bytesT Try.prog 19 = some 8 := by kernel_rfl
@[simp] theorem agg19 : aggT Try.prog 19 = some true := by kernel_rfl
@[simp] theorem kind19 : kindT Try.prog 19 = some .struct := by kernel_rfl
@[simp] theorem field19_0 : fieldT Try.prog 19 0 = some (0, 1, 17) := by kernel_rfl
@[simp] theorem places19 : placesT Try.prog 19 = some [(0, 1)] := by kernel_rfl
@[simp] theorem zero19 : zeroT Try.prog 19 = some (.agg #[.pointer none]) := by kernel_rfl
@[simp] theorem size20 : sizeT Try.prog 20 = some 1 := by kernel_rfl
@[simp] theorem bytes20 : bytesT Try.prog 20 = some 16 := by kernel_rfl
@[simp] theorem agg20 : aggT Try.prog 20 = some false := by kernel_rfl
@[simp] theorem kind20 : kindT Try.prog 20 = some .iface := by kernel_rfl
@[simp] theorem zero20 : zeroT Try.prog 20 = some (.nilIface) := by kernel_rfl
@[simp] theorem size21 : sizeT Try.prog 21 = some 1 := by kernel_rfl
@[simp] theorem bytes21 : bytesT Try.prog 21 = some 4 := by kernel_rfl
@[simp] theorem agg21 : aggT Try.prog 21 = some false := by kernel_rfl
@[simp] theorem kind21 : kindT Try.prog 21 = some (.int .i32) := by kernel_rfl
@[simp] theorem zero21 : zeroT Try.prog 21 = some (.int .i32 0) := by kernel_rfl
@[simp] theorem size22 : sizeT Try.prog 22 = some 1 := by kernel_rfl
@[simp] theorem bytes22 : bytesT Try.prog 22 = some 24 := by kernel_rfl
@[simp] theorem agg22 : aggT Try.prog 22 = some false := by kernel_rfl
@[simp] theorem kind22 : kindT Try.prog 22 = some .slice := by kernel_rfl
@[simp] theorem elem22 : elemT Try.prog 22 = some 5 := by kernel_rfl
@[simp] theorem zero22 : zeroT Try.prog 22 = some (.slice none 0 0) := by kernel_rfl
@[simp] theorem size23 : sizeT Try.prog 23 = some 1 := by kernel_rfl
@[simp] theorem bytes23 : bytesT Try.prog 23 = some 8 := by kernel_rfl
@[simp] theorem agg23 : aggT Try.prog 23 = some false := by kernel_rfl
@[simp] theorem kind23 : kindT Try.prog 23 = some .func := by kernel_rfl
@[simp] theorem zero23 : zeroT Try.prog 23 = some (.nilFunc) := by kernel_rfl
@[simp] theorem size24 : sizeT Try.prog 24 = some 1 := by kernel_rfl
@[simp] theorem bytes24 : bytesT Try.prog 24 = some 8 := by kernel_rfl
@[simp] theorem agg24 : aggT Try.prog 24 = some false := by kernel_rfl
@[simp] theorem kind24 : kindT Try.prog 24 = some .func := by kernel_rfl
@[simp] theorem zero24 : zeroT Try.prog 24 = some (.nilFunc) := by kernel_rfl
@[simp] theorem size25 : sizeT Try.prog 25 = some 1 := by kernel_rfl
@[simp] theorem bytes25 : bytesT Try.prog 25 = some 8 := by kernel_rfl
@[simp] theorem agg25 : aggT Try.prog 25 = some false := by kernel_rfl
@[simp] theorem kind25 : kindT Try.prog 25 = some .func := by kernel_rfl
@[simp] theorem zero25 : zeroT Try.prog 25 = some (.nilFunc) := by kernel_rfl
@[simp] theorem size26 : sizeT Try.prog 26 = some 4 := by kernel_rfl
@[simp] theorem bytes26 : bytesT Try.prog 26 = some 64 := by kernel_rfl
@[simp] theorem agg26 : aggT Try.prog 26 = some true := by kernel_rfl
@[simp] theorem kind26 : kindT Try.prog 26 = some .array := by kernel_rfl
@[simp] theorem placesN26 : placesT Try.prog 26 = none := by kernel_rfl
@[simp] theorem arr26 : arrT Try.prog 26 = some (4, 9) := by kernel_rfl
@[simp] theorem zero26 : zeroT Try.prog 26 = some (.agg #[.string "".toByteArray, .string "".toByteArray, .string "".toByteArray, .string "".toByteArray]) := by kernel_rfl
@[simp] theorem size27 : sizeT Try.prog 27 = some 4 := by kernel_rfl
@[simp] theorem bytes27 : bytesT Try.prog 27 = some 32 := by kernel_rfl
@[simp] theorem agg27 : aggT Try.prog 27 = some true := by kernel_rfl
@[simp] theorem kind27 : kindT Try.prog 27 = some .array := by kernel_rfl
@[simp] theorem placesN27 : placesT Try.prog 27 = none := by kernel_rfl
@[simp] theorem arr27 : arrT Try.prog 27 = some (4, 3) := by kernel_rfl
@[simp] theorem zero27 : zeroT Try.prog 27 = some (.agg #[.int .i64 0, .int .i64 0, .int .i64 0, .int .i64 0]) := by kernel_rfl
@[simp] theorem size28 : sizeT Try.prog 28 = some 1 := by kernel_rfl
@[simp] theorem bytes28 : bytesT Try.prog 28 = some 24 := by kernel_rfl
@[simp] theorem agg28 : aggT Try.prog 28 = some false := by kernel_rfl
@[simp] theorem kind28 : kindT Try.prog 28 = some .slice := by kernel_rfl
@[simp] theorem elem28 : elemT Try.prog 28 = some 68 := by kernel_rfl
@[simp] theorem zero28 : zeroT Try.prog 28 = some (.slice none 0 0) := by kernel_rfl
@[simp] theorem size29 : sizeT Try.prog 29 = some 1 := by kernel_rfl
@[simp] theorem bytes29 : bytesT Try.prog 29 = some 24 := by kernel_rfl
@[simp] theorem agg29 : aggT Try.prog 29 = some false := by kernel_rfl
@[simp] theorem kind29 : kindT Try.prog 29 = some .slice := by kernel_rfl
@[simp] theorem elem29 : elemT Try.prog 29 = some 71 := by kernel_rfl
@[simp] theorem zero29 : zeroT Try.prog 29 = some (.slice none 0 0) := by kernel_rfl
@[simp] theorem size30 : sizeT Try.prog 30 = some 1 := by kernel_rfl
@[simp] theorem bytes30 : bytesT Try.prog 30 = some 24 := by kernel_rfl
@[simp] theorem agg30 : aggT Try.prog 30 = some false := by kernel_rfl
@[simp] theorem kind30 : kindT Try.prog 30 = some .slice := by kernel_rfl
@[simp] theorem elem30 : elemT Try.prog 30 = some 133 := by kernel_rfl
@[simp] theorem zero30 : zeroT Try.prog 30 = some (.slice none 0 0) := by kernel_rfl
@[simp] theorem size31 : sizeT Try.prog 31 = some 1 := by kernel_rfl
@[simp] theorem bytes31 : bytesT Try.prog 31 = some 24 := by kernel_rfl
@[simp] theorem agg31 : aggT Try.prog 31 = some false := by kernel_rfl
@[simp] theorem kind31 : kindT Try.prog 31 = some .slice := by kernel_rfl
@[simp] theorem elem31 : elemT Try.prog 31 = some 136 := by kernel_rfl
@[simp] theorem zero31 : zeroT Try.prog 31 = some (.slice none 0 0) := by kernel_rfl
@[simp] theorem size32 : sizeT Try.prog 32 = some 5 := by kernel_rfl
@[simp] theorem bytes32 : bytesT Try.prog 32 = some 112 := by kernel_rfl
@[simp] theorem agg32 : aggT Try.prog 32 = some true := by kernel_rfl
@[simp] theorem kind32 : kindT Try.prog 32 = some .struct := by kernel_rfl
@[simp] theorem field32_0 : fieldT Try.prog 32 0 = some (0, 1, 9) := by kernel_rfl
@[simp] theorem field32_1 : fieldT Try.prog 32 1 = some (1, 1, 28) := by kernel_rfl
@[simp] theorem field32_2 : fieldT Try.prog 32 2 = some (2, 1, 29) := by kernel_rfl
@[simp] theorem field32_3 : fieldT Try.prog 32 3 = some (3, 1, 30) := by kernel_rfl
@[simp] theorem field32_4 : fieldT Try.prog 32 4 = some (4, 1, 31) := by kernel_rfl
@[simp] theorem places32 : placesT Try.prog 32 = some [(0, 1), (1, 1), (2, 1), (3, 1), (4, 1)] := by kernel_rfl
@[simp] theorem zero32 : zeroT Try.prog 32 = some (.agg #[.string "".toByteArray, .slice none 0 0, .slice none 0 0, .slice none 0 0, .slice none 0 0]) := by kernel_rfl
@[simp] theorem size33 : sizeT Try.prog 33 = some 5 := by kernel_rfl
@[simp] theorem bytes33 : bytesT Try.prog 33 = some 112 := by kernel_rfl
@[simp] theorem agg33 : aggT Try.prog 33 = some true := by kernel_rfl
@[simp] theorem kind33 : kindT Try.prog 33 = some .struct := by kernel_rfl
@[simp] theorem field33_0 : fieldT Try.prog 33 0 = some (0, 1, 9) := by kernel_rfl
@[simp] theorem field33_1 : fieldT Try.prog 33 1 = some (1, 1, 28) := by kernel_rfl
@[simp] theorem field33_2 : fieldT Try.prog 33 2 = some (2, 1, 29) := by kernel_rfl
@[simp] theorem field33_3 : fieldT Try.prog 33 3 = some (3, 1, 30) := by kernel_rfl
@[simp] theorem field33_4 : fieldT Try.prog 33 4 = some (4, 1, 31) := by kernel_rfl
@[simp] theorem places33 : placesT Try.prog 33 = some [(0, 1), (1, 1), (2, 1), (3, 1), (4, 1)] := by kernel_rfl
@[simp] theorem zero33 : zeroT Try.prog 33 = some (.agg #[.string "".toByteArray, .slice none 0 0, .slice none 0 0, .slice none 0 0, .slice none 0 0]) := by kernel_rfl
@[simp] theorem size34 : sizeT Try.prog 34 = some 1 := by kernel_rfl
@[simp] theorem bytes34 : bytesT Try.prog 34 = some 8 := by kernel_rfl
@[simp] theorem agg34 : aggT Try.prog 34 = some false := by kernel_rfl
@[simp] theorem kind34 : kindT Try.prog 34 = some (.int .i64) := by kernel_rfl
@[simp] theorem zero34 : zeroT Try.prog 34 = some (.int .i64 0) := by kernel_rfl
@[simp] theorem size35 : sizeT Try.prog 35 = some 2 := by kernel_rfl
@[simp] theorem bytes35 : bytesT Try.prog 35 = some 16 := by kernel_rfl
@[simp] theorem agg35 : aggT Try.prog 35 = some true := by kernel_rfl
@[simp] theorem kind35 : kindT Try.prog 35 = some .struct := by kernel_rfl
@[simp] theorem field35_0 : fieldT Try.prog 35 0 = some (0, 1, 34) := by kernel_rfl
@[simp] theorem field35_1 : fieldT Try.prog 35 1 = some (1, 1, 3) := by kernel_rfl
@[simp] theorem places35 : placesT Try.prog 35 = some [(0, 1), (1, 1)] := by kernel_rfl
@[simp] theorem zero35 : zeroT Try.prog 35 = some (.agg #[.int .i64 0, .int .i64 0]) := by kernel_rfl
@[simp] theorem size36 : sizeT Try.prog 36 = some 2 := by kernel_rfl
@[simp] theorem bytes36 : bytesT Try.prog 36 = some 16 := by kernel_rfl
@[simp] theorem agg36 : aggT Try.prog 36 = some true := by kernel_rfl
@[simp] theorem kind36 : kindT Try.prog 36 = some .struct := by kernel_rfl
@[simp] theorem field36_0 : fieldT Try.prog 36 0 = some (0, 1, 34) := by kernel_rfl
@[simp] theorem field36_1 : fieldT Try.prog 36 1 = some (1, 1, 3) := by kernel_rfl
@[simp] theorem places36 : placesT Try.prog 36 = some [(0, 1), (1, 1)] := by kernel_rfl
@[simp] theorem zero36 : zeroT Try.prog 36 = some (.agg #[.int .i64 0, .int .i64 0]) := by kernel_rfl
@[simp] theorem size37 : sizeT Try.prog 37 = some 1 := by kernel_rfl
@[simp] theorem bytes37 : bytesT Try.prog 37 = some 0 := by kernel_rfl
@[simp] theorem agg37 : aggT Try.prog 37 = some false := by kernel_rfl
@[simp] theorem kind37 : kindT Try.prog 37 = some .other := by kernel_rfl
@[simp] theorem size38 : sizeT Try.prog 38 = some 1 := by kernel_rfl
@[simp] theorem bytes38 : bytesT Try.prog 38 = some 8 := by kernel_rfl
@[simp] theorem agg38 : aggT Try.prog 38 = some false := by kernel_rfl
@[simp] theorem kind38 : kindT Try.prog 38 = some .func := by kernel_rfl
@[simp] theorem zero38 : zeroT Try.prog 38 = some (.nilFunc) := by kernel_rfl
@[simp] theorem size39 : sizeT Try.prog 39 = some 1 := by kernel_rfl
@[simp] theorem bytes39 : bytesT Try.prog 39 = some 8 := by kernel_rfl
@[simp] theorem agg39 : aggT Try.prog 39 = some false := by kernel_rfl
@[simp] theorem kind39 : kindT Try.prog 39 = some .ptr := by kernel_rfl
@[simp] theorem zero39 : zeroT Try.prog 39 = some (.pointer none) := by kernel_rfl
@[simp] theorem size40 : sizeT Try.prog 40 = some 1 := by kernel_rfl
@[simp] theorem bytes40 : bytesT Try.prog 40 = some 0 := by kernel_rfl
@[simp] theorem agg40 : aggT Try.prog 40 = some false := by kernel_rfl
@[simp] theorem kind40 : kindT Try.prog 40 = some .other := by kernel_rfl
@[simp] theorem size41 : sizeT Try.prog 41 = some 1 := by kernel_rfl
@[simp] theorem bytes41 : bytesT Try.prog 41 = some 8 := by kernel_rfl
@[simp] theorem agg41 : aggT Try.prog 41 = some false := by kernel_rfl
@[simp] theorem kind41 : kindT Try.prog 41 = some .func := by kernel_rfl
@[simp] theorem zero41 : zeroT Try.prog 41 = some (.nilFunc) := by kernel_rfl
@[simp] theorem size42 : sizeT Try.prog 42 = some 1 := by kernel_rfl
@[simp] theorem bytes42 : bytesT Try.prog 42 = some 8 := by kernel_rfl
@[simp] theorem agg42 : aggT Try.prog 42 = some false := by kernel_rfl
@[simp] theorem kind42 : kindT Try.prog 42 = some .func := by kernel_rfl
@[simp] theorem zero42 : zeroT Try.prog 42 = some (.nilFunc) := by kernel_rfl
@[simp] theorem size43 : sizeT Try.prog 43 = some 3 := by kernel_rfl
@[simp] theorem bytes43 : bytesT Try.prog 43 = some 24 := by kernel_rfl
@[simp] theorem agg43 : aggT Try.prog 43 = some true := by kernel_rfl
@[simp] theorem kind43 : kindT Try.prog 43 = some .struct := by kernel_rfl
@[simp] theorem field43_0 : fieldT Try.prog 43 0 = some (0, 1, 3) := by kernel_rfl
@[simp] theorem field43_1 : fieldT Try.prog 43 1 = some (1, 1, 3) := by kernel_rfl
@[simp] theorem field43_2 : fieldT Try.prog 43 2 = some (2, 1, 3) := by kernel_rfl
@[simp] theorem places43 : placesT Try.prog 43 = some [(0, 1), (1, 1), (2, 1)] := by kernel_rfl
@[simp] theorem zero43 : zeroT Try.prog 43 = some (.agg #[.int .i64 0, .int .i64 0, .int .i64 0]) := by kernel_rfl
@[simp] theorem size44 : sizeT Try.prog 44 = some 3 := by kernel_rfl
@[simp] theorem bytes44 : bytesT Try.prog 44 = some 24 := by kernel_rfl
@[simp] theorem agg44 : aggT Try.prog 44 = some true := by kernel_rfl
@[simp] theorem kind44 : kindT Try.prog 44 = some .struct := by kernel_rfl
@[simp] theorem field44_0 : fieldT Try.prog 44 0 = some (0, 1, 3) := by kernel_rfl
@[simp] theorem field44_1 : fieldT Try.prog 44 1 = some (1, 1, 3) := by kernel_rfl
@[simp] theorem field44_2 : fieldT Try.prog 44 2 = some (2, 1, 3) := by kernel_rfl
@[simp] theorem places44 : placesT Try.prog 44 = some [(0, 1), (1, 1), (2, 1)] := by kernel_rfl
@[simp] theorem zero44 : zeroT Try.prog 44 = some (.agg #[.int .i64 0, .int .i64 0, .int .i64 0]) := by kernel_rfl
@[simp] theorem size45 : sizeT Try.prog 45 = some 1 := by kernel_rfl
@[simp] theorem bytes45 : bytesT Try.prog 45 = some 0 := by kernel_rfl
@[simp] theorem agg45 : aggT Try.prog 45 = some false := by kernel_rfl
@[simp] theorem kind45 : kindT Try.prog 45 = some .other := by kernel_rfl
@[simp] theorem size46 : sizeT Try.prog 46 = some 1 := by kernel_rfl
@[simp] theorem bytes46 : bytesT Try.prog 46 = some 8 := by kernel_rfl
@[simp] theorem agg46 : aggT Try.prog 46 = some false := by kernel_rfl
@[simp] theorem kind46 : kindT Try.prog 46 = some .func := by kernel_rfl
@[simp] theorem zero46 : zeroT Try.prog 46 = some (.nilFunc) := by kernel_rfl
@[simp] theorem size47 : sizeT Try.prog 47 = some 1 := by kernel_rfl
@[simp] theorem bytes47 : bytesT Try.prog 47 = some 0 := by kernel_rfl
@[simp] theorem agg47 : aggT Try.prog 47 = some false := by kernel_rfl
@[simp] theorem kind47 : kindT Try.prog 47 = some .other := by kernel_rfl
@[simp] theorem size48 : sizeT Try.prog 48 = some 1 := by kernel_rfl
@[simp] theorem bytes48 : bytesT Try.prog 48 = some 8 := by kernel_rfl
@[simp] theorem agg48 : aggT Try.prog 48 = some false := by kernel_rfl
@[simp] theorem kind48 : kindT Try.prog 48 = some .func := by kernel_rfl
@[simp] theorem zero48 : zeroT Try.prog 48 = some (.nilFunc) := by kernel_rfl
@[simp] theorem size49 : sizeT Try.prog 49 = some 1 := by kernel_rfl
@[simp] theorem bytes49 : bytesT Try.prog 49 = some 8 := by kernel_rfl
@[simp] theorem agg49 : aggT Try.prog 49 = some false := by kernel_rfl
@[simp] theorem kind49 : kindT Try.prog 49 = some .func := by kernel_rfl
@[simp] theorem zero49 : zeroT Try.prog 49 = some (.nilFunc) := by kernel_rfl
@[simp] theorem size50 : sizeT Try.prog 50 = some 1 := by kernel_rfl
@[simp] theorem bytes50 : bytesT Try.prog 50 = some 24 := by kernel_rfl
@[simp] theorem agg50 : aggT Try.prog 50 = some false := by kernel_rfl
@[simp] theorem kind50 : kindT Try.prog 50 = some .slice := by kernel_rfl
@[simp] theorem elem50 : elemT Try.prog 50 = some 78 := by kernel_rfl
@[simp] theorem zero50 : zeroT Try.prog 50 = some (.slice none 0 0) := by kernel_rfl
@[simp] theorem size51 : sizeT Try.prog 51 = some 1 := by kernel_rfl
@[simp] theorem bytes51 : bytesT Try.prog 51 = some 8 := by kernel_rfl
@[simp] theorem agg51 : aggT Try.prog 51 = some false := by kernel_rfl
@[simp] theorem kind51 : kindT Try.prog 51 = some .func := by kernel_rfl
@[simp] theorem zero51 : zeroT Try.prog 51 = some (.nilFunc) := by kernel_rfl
@[simp] theorem size52 : sizeT Try.prog 52 = some 1 := by kernel_rfl
@[simp] theorem bytes52 : bytesT Try.prog 52 = some 24 := by kernel_rfl
@[simp] theorem agg52 : aggT Try.prog 52 = some false := by kernel_rfl
@[simp] theorem kind52 : kindT Try.prog 52 = some .slice := by kernel_rfl
@[simp] theorem elem52 : elemT Try.prog 52 = some 3 := by kernel_rfl
@[simp] theorem zero52 : zeroT Try.prog 52 = some (.slice none 0 0) := by kernel_rfl
@[simp] theorem size53 : sizeT Try.prog 53 = some 1 := by kernel_rfl
@[simp] theorem bytes53 : bytesT Try.prog 53 = some 8 := by kernel_rfl
@[simp] theorem agg53 : aggT Try.prog 53 = some false := by kernel_rfl
@[simp] theorem kind53 : kindT Try.prog 53 = some .func := by kernel_rfl
@[simp] theorem zero53 : zeroT Try.prog 53 = some (.nilFunc) := by kernel_rfl
@[simp] theorem size54 : sizeT Try.prog 54 = some 1 := by kernel_rfl
@[simp] theorem bytes54 : bytesT Try.prog 54 = some 8 := by kernel_rfl
@[simp] theorem agg54 : aggT Try.prog 54 = some false := by kernel_rfl
@[simp] theorem kind54 : kindT Try.prog 54 = some .func := by kernel_rfl
@[simp] theorem zero54 : zeroT Try.prog 54 = some (.nilFunc) := by kernel_rfl
@[simp] theorem size55 : sizeT Try.prog 55 = some 1 := by kernel_rfl
@[simp] theorem bytes55 : bytesT Try.prog 55 = some 8 := by kernel_rfl
@[simp] theorem agg55 : aggT Try.prog 55 = some false := by kernel_rfl
@[simp] theorem kind55 : kindT Try.prog 55 = some .func := by kernel_rfl
@[simp] theorem zero55 : zeroT Try.prog 55 = some (.nilFunc) := by kernel_rfl
@[simp] theorem size56 : sizeT Try.prog 56 = some 1 := by kernel_rfl
@[simp] theorem bytes56 : bytesT Try.prog 56 = some 8 := by kernel_rfl
@[simp] theorem agg56 : aggT Try.prog 56 = some false := by kernel_rfl
@[simp] theorem kind56 : kindT Try.prog 56 = some .func := by kernel_rfl
@[simp] theorem zero56 : zeroT Try.prog 56 = some (.nilFunc) := by kernel_rfl
@[simp] theorem size57 : sizeT Try.prog 57 = some 1 := by kernel_rfl
@[simp] theorem bytes57 : bytesT Try.prog 57 = some 8 := by kernel_rfl
@[simp] theorem agg57 : aggT Try.prog 57 = some false := by kernel_rfl
@[simp] theorem kind57 : kindT Try.prog 57 = some .func := by kernel_rfl
@[simp] theorem zero57 : zeroT Try.prog 57 = some (.nilFunc) := by kernel_rfl
@[simp] theorem size58 : sizeT Try.prog 58 = some 7 := by kernel_rfl
@[simp] theorem bytes58 : bytesT Try.prog 58 = some 112 := by kernel_rfl
@[simp] theorem agg58 : aggT Try.prog 58 = some true := by kernel_rfl
@[simp] theorem kind58 : kindT Try.prog 58 = some .array := by kernel_rfl
@[simp] theorem placesN58 : placesT Try.prog 58 = none := by kernel_rfl
@[simp] theorem arr58 : arrT Try.prog 58 = some (7, 9) := by kernel_rfl
@[simp] theorem zero58 : zeroT Try.prog 58 = some (.agg #[.string "".toByteArray, .string "".toByteArray, .string "".toByteArray, .string "".toByteArray, .string "".toByteArray, .string "".toByteArray, .string "".toByteArray]) := by kernel_rfl
@[simp] theorem size59 : sizeT Try.prog 59 = some 10 := by kernel_rfl
@[simp] theorem bytes59 : bytesT Try.prog 59 = some 160 := by kernel_rfl
@[simp] theorem agg59 : aggT Try.prog 59 = some true := by kernel_rfl
@[simp] theorem kind59 : kindT Try.prog 59 = some .array := by kernel_rfl
@[simp] theorem placesN59 : placesT Try.prog 59 = none := by kernel_rfl
@[simp] theorem arr59 : arrT Try.prog 59 = some (10, 9) := by kernel_rfl
@[simp] theorem zero59 : zeroT Try.prog 59 = some (.agg #[.string "".toByteArray, .string "".toByteArray, .string "".toByteArray, .string "".toByteArray, .string "".toByteArray, .string "".toByteArray, .string "".toByteArray, .string "".toByteArray, .string "".toByteArray, .string "".toByteArray]) := by kernel_rfl
@[simp] theorem size60 : sizeT Try.prog 60 = some 1 := by kernel_rfl
@[simp] theorem bytes60 : bytesT Try.prog 60 = some 8 := by kernel_rfl
@[simp] theorem agg60 : aggT Try.prog 60 = some false := by kernel_rfl
@[simp] theorem kind60 : kindT Try.prog 60 = some .func := by kernel_rfl
@[simp] theorem zero60 : zeroT Try.prog 60 = some (.nilFunc) := by kernel_rfl
@[simp] theorem size61 : sizeT Try.prog 61 = some 1 := by kernel_rfl
@[simp] theorem bytes61 : bytesT Try.prog 61 = some 8 := by kernel_rfl
@[simp] theorem agg61 : aggT Try.prog 61 = some false := by kernel_rfl
@[simp] theorem kind61 : kindT Try.prog 61 = some .func := by kernel_rfl
@[simp] theorem zero61 : zeroT Try.prog 61 = some (.nilFunc) := by kernel_rfl
@[simp] theorem size62 : sizeT Try.prog 62 = some 1 := by kernel_rfl
@[simp] theorem bytes62 : bytesT Try.prog 62 = some 8 := by kernel_rfl
@[simp] theorem agg62 : aggT Try.prog 62 = some false := by kernel_rfl
@[simp] theorem kind62 : kindT Try.prog 62 = some .func := by kernel_rfl
@[simp] theorem zero62 : zeroT Try.prog 62 = some (.nilFunc) := by kernel_rfl
@[simp] theorem size63 : sizeT Try.prog 63 = some 1 := by kernel_rfl
@[simp] theorem bytes63 : bytesT Try.prog 63 = some 8 := by kernel_rfl
@[simp] theorem agg63 : aggT Try.prog 63 = some false := by kernel_rfl
@[simp] theorem kind63 : kindT Try.prog 63 = some .ptr := by kernel_rfl
@[simp] theorem zero63 : zeroT Try.prog 63 = some (.pointer none) := by kernel_rfl
@[simp] theorem size64 : sizeT Try.prog 64 = some 1 := by kernel_rfl
@[simp] theorem bytes64 : bytesT Try.prog 64 = some 0 := by kernel_rfl
@[simp] theorem agg64 : aggT Try.prog 64 = some false := by kernel_rfl
@[simp] theorem kind64 : kindT Try.prog 64 = some .other := by kernel_rfl
@[simp] theorem size65 : sizeT Try.prog 65 = some 1 := by kernel_rfl
@[simp] theorem bytes65 : bytesT Try.prog 65 = some 8 := by kernel_rfl
@[simp] theorem agg65 : aggT Try.prog 65 = some false := by kernel_rfl
@[simp] theorem kind65 : kindT Try.prog 65 = some .func := by kernel_rfl
@[simp] theorem zero65 : zeroT Try.prog 65 = some (.nilFunc) := by kernel_rfl
@[simp] theorem size66 : sizeT Try.prog 66 = some 1 := by kernel_rfl
@[simp] theorem bytes66 : bytesT Try.prog 66 = some 8 := by kernel_rfl
@[simp] theorem agg66 : aggT Try.prog 66 = some false := by kernel_rfl
@[simp] theorem kind66 : kindT Try.prog 66 = some .func := by kernel_rfl
@[simp] theorem zero66 : zeroT Try.prog 66 = some (.nilFunc) := by kernel_rfl
@[simp] theorem size67 : sizeT Try.prog 67 = some 4 := by kernel_rfl
@[simp] theorem bytes67 : bytesT Try.prog 67 = some 40 := by kernel_rfl
@[simp] theorem agg67 : aggT Try.prog 67 = some true := by kernel_rfl
@[simp] theorem kind67 : kindT Try.prog 67 = some .struct := by kernel_rfl
@[simp] theorem field67_0 : fieldT Try.prog 67 0 = some (0, 1, 3) := by kernel_rfl
@[simp] theorem field67_1 : fieldT Try.prog 67 1 = some (1, 1, 3) := by kernel_rfl
@[simp] theorem field67_2 : fieldT Try.prog 67 2 = some (2, 1, 9) := by kernel_rfl
@[simp] theorem field67_3 : fieldT Try.prog 67 3 = some (3, 1, 3) := by kernel_rfl
@[simp] theorem places67 : placesT Try.prog 67 = some [(0, 1), (1, 1), (2, 1), (3, 1)] := by kernel_rfl
@[simp] theorem zero67 : zeroT Try.prog 67 = some (.agg #[.int .i64 0, .int .i64 0, .string "".toByteArray, .int .i64 0]) := by kernel_rfl
@[simp] theorem size68 : sizeT Try.prog 68 = some 4 := by kernel_rfl
@[simp] theorem bytes68 : bytesT Try.prog 68 = some 40 := by kernel_rfl
@[simp] theorem agg68 : aggT Try.prog 68 = some true := by kernel_rfl
@[simp] theorem kind68 : kindT Try.prog 68 = some .struct := by kernel_rfl
@[simp] theorem field68_0 : fieldT Try.prog 68 0 = some (0, 1, 3) := by kernel_rfl
@[simp] theorem field68_1 : fieldT Try.prog 68 1 = some (1, 1, 3) := by kernel_rfl
@[simp] theorem field68_2 : fieldT Try.prog 68 2 = some (2, 1, 9) := by kernel_rfl
@[simp] theorem field68_3 : fieldT Try.prog 68 3 = some (3, 1, 3) := by kernel_rfl
@[simp] theorem places68 : placesT Try.prog 68 = some [(0, 1), (1, 1), (2, 1), (3, 1)] := by kernel_rfl
@[simp] theorem zero68 : zeroT Try.prog 68 = some (.agg #[.int .i64 0, .int .i64 0, .string "".toByteArray, .int .i64 0]) := by kernel_rfl
@[simp] theorem size69 : sizeT Try.prog 69 = some 1 := by kernel_rfl
@[simp] theorem bytes69 : bytesT Try.prog 69 = some 24 := by kernel_rfl
@[simp] theorem agg69 : aggT Try.prog 69 = some false := by kernel_rfl
@[simp] theorem kind69 : kindT Try.prog 69 = some .slice := by kernel_rfl
@[simp] theorem elem69 : elemT Try.prog 69 = some 73 := by kernel_rfl
@[simp] theorem zero69 : zeroT Try.prog 69 = some (.slice none 0 0) := by kernel_rfl
@[simp] theorem size70 : sizeT Try.prog 70 = some 5 := by kernel_rfl
@[simp] theorem bytes70 : bytesT Try.prog 70 = some 96 := by kernel_rfl
@[simp] theorem agg70 : aggT Try.prog 70 = some true := by kernel_rfl
@[simp] theorem kind70 : kindT Try.prog 70 = some .struct := by kernel_rfl
@[simp] theorem field70_0 : fieldT Try.prog 70 0 = some (0, 1, 3) := by kernel_rfl
@[simp] theorem field70_1 : fieldT Try.prog 70 1 = some (1, 1, 9) := by kernel_rfl
@[simp] theorem field70_2 : fieldT Try.prog 70 2 = some (2, 1, 69) := by kernel_rfl
@[simp] theorem field70_3 : fieldT Try.prog 70 3 = some (3, 1, 69) := by kernel_rfl
@[simp] theorem field70_4 : fieldT Try.prog 70 4 = some (4, 1, 31) := by kernel_rfl
@[simp] theorem places70 : placesT Try.prog 70 = some [(0, 1), (1, 1), (2, 1), (3, 1), (4, 1)] := by kernel_rfl
@[simp] theorem zero70 : zeroT Try.prog 70 = some (.agg #[.int .i64 0, .string "".toByteArray, .slice none 0 0, .slice none 0 0, .slice none 0 0]) := by kernel_rfl
@[simp] theorem size71 : sizeT Try.prog 71 = some 5 := by kernel_rfl
@[simp] theorem bytes71 : bytesT Try.prog 71 = some 96 := by kernel_rfl
@[simp] theorem agg71 : aggT Try.prog 71 = some true := by kernel_rfl
@[simp] theorem kind71 : kindT Try.prog 71 = some .struct := by kernel_rfl
@[simp] theorem field71_0 : fieldT Try.prog 71 0 = some (0, 1, 3) := by kernel_rfl
@[simp] theorem field71_1 : fieldT Try.prog 71 1 = some (1, 1, 9) := by kernel_rfl
@[simp] theorem field71_2 : fieldT Try.prog 71 2 = some (2, 1, 69) := by kernel_rfl
@[simp] theorem field71_3 : fieldT Try.prog 71 3 = some (3, 1, 69) := by kernel_rfl
@[simp] theorem field71_4 : fieldT Try.prog 71 4 = some (4, 1, 31) := by kernel_rfl
@[simp] theorem places71 : placesT Try.prog 71 = some [(0, 1), (1, 1), (2, 1), (3, 1), (4, 1)] := by kernel_rfl
@[simp] theorem zero71 : zeroT Try.prog 71 = some (.agg #[.int .i64 0, .string "".toByteArray, .slice none 0 0, .slice none 0 0, .slice none 0 0]) := by kernel_rfl
@[simp] theorem size72 : sizeT Try.prog 72 = some 2 := by kernel_rfl
@[simp] theorem bytes72 : bytesT Try.prog 72 = some 24 := by kernel_rfl
@[simp] theorem agg72 : aggT Try.prog 72 = some true := by kernel_rfl
@[simp] theorem kind72 : kindT Try.prog 72 = some .struct := by kernel_rfl
@[simp] theorem field72_0 : fieldT Try.prog 72 0 = some (0, 1, 3) := by kernel_rfl
@[simp] theorem field72_1 : fieldT Try.prog 72 1 = some (1, 1, 9) := by kernel_rfl
@[simp] theorem places72 : placesT Try.prog 72 = some [(0, 1), (1, 1)] := by kernel_rfl
@[simp] theorem zero72 : zeroT Try.prog 72 = some (.agg #[.int .i64 0, .string "".toByteArray]) := by kernel_rfl
@[simp] theorem size73 : sizeT Try.prog 73 = some 2 := by kernel_rfl
@[simp] theorem bytes73 : bytesT Try.prog 73 = some 24 := by kernel_rfl
@[simp] theorem agg73 : aggT Try.prog 73 = some true := by kernel_rfl
@[simp] theorem kind73 : kindT Try.prog 73 = some .struct := by kernel_rfl
@[simp] theorem field73_0 : fieldT Try.prog 73 0 = some (0, 1, 3) := by kernel_rfl
@[simp] theorem field73_1 : fieldT Try.prog 73 1 = some (1, 1, 9) := by kernel_rfl
@[simp] theorem places73 : placesT Try.prog 73 = some [(0, 1), (1, 1)] := by kernel_rfl
@[simp] theorem zero73 : zeroT Try.prog 73 = some (.agg #[.int .i64 0, .string "".toByteArray]) := by kernel_rfl
@[simp] theorem size74 : sizeT Try.prog 74 = some 1 := by kernel_rfl
@[simp] theorem bytes74 : bytesT Try.prog 74 = some 8 := by kernel_rfl
@[simp] theorem agg74 : aggT Try.prog 74 = some false := by kernel_rfl
@[simp] theorem kind74 : kindT Try.prog 74 = some .func := by kernel_rfl
@[simp] theorem zero74 : zeroT Try.prog 74 = some (.nilFunc) := by kernel_rfl
@[simp] theorem size75 : sizeT Try.prog 75 = some 1 := by kernel_rfl
@[simp] theorem bytes75 : bytesT Try.prog 75 = some 8 := by kernel_rfl
@[simp] theorem agg75 : aggT Try.prog 75 = some false := by kernel_rfl
@[simp] theorem kind75 : kindT Try.prog 75 = some .func := by kernel_rfl
@[simp] theorem zero75 : zeroT Try.prog 75 = some (.nilFunc) := by kernel_rfl
@[simp] theorem size76 : sizeT Try.prog 76 = some 1 := by kernel_rfl
@[simp] theorem bytes76 : bytesT Try.prog 76 = some 8 := by kernel_rfl
@[simp] theorem agg76 : aggT Try.prog 76 = some false := by kernel_rfl
@[simp] theorem kind76 : kindT Try.prog 76 = some .func := by kernel_rfl
@[simp] theorem zero76 : zeroT Try.prog 76 = some (.nilFunc) := by kernel_rfl
@[simp] theorem size77 : sizeT Try.prog 77 = some 2 := by kernel_rfl
@[simp] theorem bytes77 : bytesT Try.prog 77 = some 16 := by kernel_rfl
@[simp] theorem agg77 : aggT Try.prog 77 = some true := by kernel_rfl
@[simp] theorem kind77 : kindT Try.prog 77 = some .struct := by kernel_rfl
@[simp] theorem field77_0 : fieldT Try.prog 77 0 = some (0, 1, 3) := by kernel_rfl
@[simp] theorem field77_1 : fieldT Try.prog 77 1 = some (1, 1, 3) := by kernel_rfl
@[simp] theorem places77 : placesT Try.prog 77 = some [(0, 1), (1, 1)] := by kernel_rfl
@[simp] theorem zero77 : zeroT Try.prog 77 = some (.agg #[.int .i64 0, .int .i64 0]) := by kernel_rfl
@[simp] theorem size78 : sizeT Try.prog 78 = some 2 := by kernel_rfl
@[simp] theorem bytes78 : bytesT Try.prog 78 = some 16 := by kernel_rfl
@[simp] theorem agg78 : aggT Try.prog 78 = some true := by kernel_rfl
@[simp] theorem kind78 : kindT Try.prog 78 = some .struct := by kernel_rfl
@[simp] theorem field78_0 : fieldT Try.prog 78 0 = some (0, 1, 3) := by kernel_rfl
@[simp] theorem field78_1 : fieldT Try.prog 78 1 = some (1, 1, 3) := by kernel_rfl
@[simp] theorem places78 : placesT Try.prog 78 = some [(0, 1), (1, 1)] := by kernel_rfl
@[simp] theorem zero78 : zeroT Try.prog 78 = some (.agg #[.int .i64 0, .int .i64 0]) := by kernel_rfl
@[simp] theorem size79 : sizeT Try.prog 79 = some 1 := by kernel_rfl
@[simp] theorem bytes79 : bytesT Try.prog 79 = some 24 := by kernel_rfl
@[simp] theorem agg79 : aggT Try.prog 79 = some false := by kernel_rfl
@[simp] theorem kind79 : kindT Try.prog 79 = some .slice := by kernel_rfl
@[simp] theorem elem79 : elemT Try.prog 79 = some 93 := by kernel_rfl
@[simp] theorem zero79 : zeroT Try.prog 79 = some (.slice none 0 0) := by kernel_rfl
@[simp] theorem size80 : sizeT Try.prog 80 = some 1 := by kernel_rfl
@[simp] theorem bytes80 : bytesT Try.prog 80 = some 0 := by kernel_rfl
@[simp] theorem agg80 : aggT Try.prog 80 = some false := by kernel_rfl
@[simp] theorem kind80 : kindT Try.prog 80 = some .other := by kernel_rfl
@[simp] theorem size81 : sizeT Try.prog 81 = some 1 := by kernel_rfl
@[simp] theorem bytes81 : bytesT Try.prog 81 = some 8 := by kernel_rfl
@[simp] theorem agg81 : aggT Try.prog 81 = some false := by kernel_rfl
@[simp] theorem kind81 : kindT Try.prog 81 = some .func := by kernel_rfl
@[simp] theorem zero81 : zeroT Try.prog 81 = some (.nilFunc) := by kernel_rfl
@[simp] theorem size82 : sizeT Try.prog 82 = some 1 := by kernel_rfl
@[simp] theorem bytes82 : bytesT Try.prog 82 = some 8 := by kernel_rfl
@[simp] theorem agg82 : aggT Try.prog 82 = some false := by kernel_rfl
@[simp] theorem kind82 : kindT Try.prog 82 = some .ptr := by kernel_rfl
@[simp] theorem zero82 : zeroT Try.prog 82 = some (.pointer none) := by kernel_rfl
@[simp] theorem size83 : sizeT Try.prog 83 = some 4 := by kernel_rfl
@[simp] theorem bytes83 : bytesT Try.prog 83 = some 48 := by kernel_rfl
@[simp] theorem agg83 : aggT Try.prog 83 = some true := by kernel_rfl
@[simp] theorem kind83 : kindT Try.prog 83 = some .struct := by kernel_rfl
@[simp] theorem field83_0 : fieldT Try.prog 83 0 = some (0, 1, 79) := by kernel_rfl
@[simp] theorem field83_1 : fieldT Try.prog 83 1 = some (1, 1, 3) := by kernel_rfl
@[simp] theorem field83_2 : fieldT Try.prog 83 2 = some (2, 2, 36) := by kernel_rfl
@[simp] theorem places83 : placesT Try.prog 83 = some [(0, 1), (1, 1), (2, 2)] := by kernel_rfl
@[simp] theorem zero83 : zeroT Try.prog 83 = some (.agg #[.slice none 0 0, .int .i64 0, .int .i64 0, .int .i64 0]) := by kernel_rfl
@[simp] theorem size84 : sizeT Try.prog 84 = some 4 := by kernel_rfl
@[simp] theorem bytes84 : bytesT Try.prog 84 = some 48 := by kernel_rfl
@[simp] theorem agg84 : aggT Try.prog 84 = some true := by kernel_rfl
@[simp] theorem kind84 : kindT Try.prog 84 = some .struct := by kernel_rfl
@[simp] theorem field84_0 : fieldT Try.prog 84 0 = some (0, 1, 79) := by kernel_rfl
@[simp] theorem field84_1 : fieldT Try.prog 84 1 = some (1, 1, 3) := by kernel_rfl
@[simp] theorem field84_2 : fieldT Try.prog 84 2 = some (2, 2, 36) := by kernel_rfl
@[simp] theorem places84 : placesT Try.prog 84 = some [(0, 1), (1, 1), (2, 2)] := by kernel_rfl
@[simp] theorem zero84 : zeroT Try.prog 84 = some (.agg #[.slice none 0 0, .int .i64 0, .int .i64 0, .int .i64 0]) := by kernel_rfl
@[simp] theorem size85 : sizeT Try.prog 85 = some 1 := by kernel_rfl
@[simp] theorem bytes85 : bytesT Try.prog 85 = some 8 := by kernel_rfl
@[simp] theorem agg85 : aggT Try.prog 85 = some false := by kernel_rfl
@[simp] theorem kind85 : kindT Try.prog 85 = some .func := by kernel_rfl
@[simp] theorem zero85 : zeroT Try.prog 85 = some (.nilFunc) := by kernel_rfl
@[simp] theorem size86 : sizeT Try.prog 86 = some 1 := by kernel_rfl
@[simp] theorem bytes86 : bytesT Try.prog 86 = some 8 := by kernel_rfl
@[simp] theorem agg86 : aggT Try.prog 86 = some false := by kernel_rfl
@[simp] theorem kind86 : kindT Try.prog 86 = some .func := by kernel_rfl
@[simp] theorem zero86 : zeroT Try.prog 86 = some (.nilFunc) := by kernel_rfl
@[simp] theorem size87 : sizeT Try.prog 87 = some 1 := by kernel_rfl
@[simp] theorem bytes87 : bytesT Try.prog 87 = some 8 := by kernel_rfl
@[simp] theorem agg87 : aggT Try.prog 87 = some false := by kernel_rfl
@[simp] theorem kind87 : kindT Try.prog 87 = some .func := by kernel_rfl
@[simp] theorem zero87 : zeroT Try.prog 87 = some (.nilFunc) := by kernel_rfl
@[simp] theorem size88 : sizeT Try.prog 88 = some 1 := by kernel_rfl
@[simp] theorem bytes88 : bytesT Try.prog 88 = some 8 := by kernel_rfl
@[simp] theorem agg88 : aggT Try.prog 88 = some false := by kernel_rfl
@[simp] theorem kind88 : kindT Try.prog 88 = some .func := by kernel_rfl
@[simp] theorem zero88 : zeroT Try.prog 88 = some (.nilFunc) := by kernel_rfl
@[simp] theorem size89 : sizeT Try.prog 89 = some 1 := by kernel_rfl
@[simp] theorem bytes89 : bytesT Try.prog 89 = some 8 := by kernel_rfl
@[simp] theorem agg89 : aggT Try.prog 89 = some false := by kernel_rfl
@[simp] theorem kind89 : kindT Try.prog 89 = some .func := by kernel_rfl
@[simp] theorem zero89 : zeroT Try.prog 89 = some (.nilFunc) := by kernel_rfl
@[simp] theorem size90 : sizeT Try.prog 90 = some 1 := by kernel_rfl
@[simp] theorem bytes90 : bytesT Try.prog 90 = some 8 := by kernel_rfl
@[simp] theorem agg90 : aggT Try.prog 90 = some false := by kernel_rfl
@[simp] theorem kind90 : kindT Try.prog 90 = some .func := by kernel_rfl
@[simp] theorem zero90 : zeroT Try.prog 90 = some (.nilFunc) := by kernel_rfl
@[simp] theorem size91 : sizeT Try.prog 91 = some 1 := by kernel_rfl
@[simp] theorem bytes91 : bytesT Try.prog 91 = some 8 := by kernel_rfl
@[simp] theorem agg91 : aggT Try.prog 91 = some false := by kernel_rfl
@[simp] theorem kind91 : kindT Try.prog 91 = some .func := by kernel_rfl
@[simp] theorem zero91 : zeroT Try.prog 91 = some (.nilFunc) := by kernel_rfl
@[simp] theorem size92 : sizeT Try.prog 92 = some 4 := by kernel_rfl
@[simp] theorem bytes92 : bytesT Try.prog 92 = some 40 := by kernel_rfl
@[simp] theorem agg92 : aggT Try.prog 92 = some true := by kernel_rfl
@[simp] theorem kind92 : kindT Try.prog 92 = some .struct := by kernel_rfl
@[simp] theorem field92_0 : fieldT Try.prog 92 0 = some (0, 1, 3) := by kernel_rfl
@[simp] theorem field92_1 : fieldT Try.prog 92 1 = some (1, 1, 3) := by kernel_rfl
@[simp] theorem field92_2 : fieldT Try.prog 92 2 = some (2, 1, 3) := by kernel_rfl
@[simp] theorem field92_3 : fieldT Try.prog 92 3 = some (3, 1, 9) := by kernel_rfl
@[simp] theorem places92 : placesT Try.prog 92 = some [(0, 1), (1, 1), (2, 1), (3, 1)] := by kernel_rfl
@[simp] theorem zero92 : zeroT Try.prog 92 = some (.agg #[.int .i64 0, .int .i64 0, .int .i64 0, .string "".toByteArray]) := by kernel_rfl
@[simp] theorem size93 : sizeT Try.prog 93 = some 4 := by kernel_rfl
@[simp] theorem bytes93 : bytesT Try.prog 93 = some 40 := by kernel_rfl
@[simp] theorem agg93 : aggT Try.prog 93 = some true := by kernel_rfl
@[simp] theorem kind93 : kindT Try.prog 93 = some .struct := by kernel_rfl
@[simp] theorem field93_0 : fieldT Try.prog 93 0 = some (0, 1, 3) := by kernel_rfl
@[simp] theorem field93_1 : fieldT Try.prog 93 1 = some (1, 1, 3) := by kernel_rfl
@[simp] theorem field93_2 : fieldT Try.prog 93 2 = some (2, 1, 3) := by kernel_rfl
@[simp] theorem field93_3 : fieldT Try.prog 93 3 = some (3, 1, 9) := by kernel_rfl
@[simp] theorem places93 : placesT Try.prog 93 = some [(0, 1), (1, 1), (2, 1), (3, 1)] := by kernel_rfl
@[simp] theorem zero93 : zeroT Try.prog 93 = some (.agg #[.int .i64 0, .int .i64 0, .int .i64 0, .string "".toByteArray]) := by kernel_rfl
@[simp] theorem size94 : sizeT Try.prog 94 = some 1 := by kernel_rfl
@[simp] theorem bytes94 : bytesT Try.prog 94 = some 8 := by kernel_rfl
@[simp] theorem agg94 : aggT Try.prog 94 = some false := by kernel_rfl
@[simp] theorem kind94 : kindT Try.prog 94 = some .func := by kernel_rfl
@[simp] theorem zero94 : zeroT Try.prog 94 = some (.nilFunc) := by kernel_rfl
@[simp] theorem size95 : sizeT Try.prog 95 = some 1 := by kernel_rfl
@[simp] theorem bytes95 : bytesT Try.prog 95 = some 8 := by kernel_rfl
@[simp] theorem agg95 : aggT Try.prog 95 = some false := by kernel_rfl
@[simp] theorem kind95 : kindT Try.prog 95 = some .func := by kernel_rfl
@[simp] theorem zero95 : zeroT Try.prog 95 = some (.nilFunc) := by kernel_rfl
@[simp] theorem size96 : sizeT Try.prog 96 = some 1 := by kernel_rfl
@[simp] theorem bytes96 : bytesT Try.prog 96 = some 8 := by kernel_rfl
@[simp] theorem agg96 : aggT Try.prog 96 = some false := by kernel_rfl
@[simp] theorem kind96 : kindT Try.prog 96 = some .map := by kernel_rfl
@[simp] theorem map96 : mapT Try.prog 96 = some (9, 44) := by kernel_rfl
@[simp] theorem zero96 : zeroT Try.prog 96 = some (.map none) := by kernel_rfl
@[simp] theorem size97 : sizeT Try.prog 97 = some 1 := by kernel_rfl
@[simp] theorem bytes97 : bytesT Try.prog 97 = some 8 := by kernel_rfl
@[simp] theorem agg97 : aggT Try.prog 97 = some false := by kernel_rfl
@[simp] theorem kind97 : kindT Try.prog 97 = some .map := by kernel_rfl
@[simp] theorem map97 : mapT Try.prog 97 = some (9, 3) := by kernel_rfl
@[simp] theorem zero97 : zeroT Try.prog 97 = some (.map none) := by kernel_rfl
@[simp] theorem size98 : sizeT Try.prog 98 = some 1 := by kernel_rfl
@[simp] theorem bytes98 : bytesT Try.prog 98 = some 24 := by kernel_rfl
@[simp] theorem agg98 : aggT Try.prog 98 = some false := by kernel_rfl
@[simp] theorem kind98 : kindT Try.prog 98 = some .slice := by kernel_rfl
@[simp] theorem elem98 : elemT Try.prog 98 = some 97 := by kernel_rfl
@[simp] theorem zero98 : zeroT Try.prog 98 = some (.slice none 0 0) := by kernel_rfl
@[simp] theorem size99 : sizeT Try.prog 99 = some 9 := by kernel_rfl
@[simp] theorem bytes99 : bytesT Try.prog 99 = some 152 := by kernel_rfl
@[simp] theorem agg99 : aggT Try.prog 99 = some true := by kernel_rfl
@[simp] theorem kind99 : kindT Try.prog 99 = some .struct := by kernel_rfl
@[simp] theorem field99_0 : fieldT Try.prog 99 0 = some (0, 1, 96) := by kernel_rfl
@[simp] theorem field99_1 : fieldT Try.prog 99 1 = some (1, 1, 97) := by kernel_rfl
@[simp] theorem field99_2 : fieldT Try.prog 99 2 = some (2, 1, 98) := by kernel_rfl
@[simp] theorem field99_3 : fieldT Try.prog 99 3 = some (3, 1, 52) := by kernel_rfl
@[simp] theorem field99_4 : fieldT Try.prog 99 4 = some (4, 1, 50) := by kernel_rfl
@[simp] theorem field99_5 : fieldT Try.prog 99 5 = some (5, 1, 52) := by kernel_rfl
@[simp] theorem field99_6 : fieldT Try.prog 99 6 = some (6, 1, 52) := by kernel_rfl
@[simp] theorem field99_7 : fieldT Try.prog 99 7 = some (7, 1, 97) := by kernel_rfl
@[simp] theorem field99_8 : fieldT Try.prog 99 8 = some (8, 1, 3) := by kernel_rfl
@[simp] theorem places99 : placesT Try.prog 99 = some [(0, 1), (1, 1), (2, 1), (3, 1), (4, 1), (5, 1), (6, 1), (7, 1), (8, 1)] := by kernel_rfl
@[simp] theorem zero99 : zeroT Try.prog 99 = some (.agg #[.map none, .map none, .slice none 0 0, .slice none 0 0, .slice none 0 0, .slice none 0 0, .slice none 0 0, .map none, .int .i64 0]) := by kernel_rfl
@[simp] theorem size100 : sizeT Try.prog 100 = some 9 := by kernel_rfl
@[simp] theorem bytes100 : bytesT Try.prog 100 = some 152 := by kernel_rfl
@[simp] theorem agg100 : aggT Try.prog 100 = some true := by kernel_rfl
@[simp] theorem kind100 : kindT Try.prog 100 = some .struct := by kernel_rfl
@[simp] theorem field100_0 : fieldT Try.prog 100 0 = some (0, 1, 96) := by kernel_rfl
@[simp] theorem field100_1 : fieldT Try.prog 100 1 = some (1, 1, 97) := by kernel_rfl
@[simp] theorem field100_2 : fieldT Try.prog 100 2 = some (2, 1, 98) := by kernel_rfl
@[simp] theorem field100_3 : fieldT Try.prog 100 3 = some (3, 1, 52) := by kernel_rfl
@[simp] theorem field100_4 : fieldT Try.prog 100 4 = some (4, 1, 50) := by kernel_rfl
@[simp] theorem field100_5 : fieldT Try.prog 100 5 = some (5, 1, 52) := by kernel_rfl
@[simp] theorem field100_6 : fieldT Try.prog 100 6 = some (6, 1, 52) := by kernel_rfl
@[simp] theorem field100_7 : fieldT Try.prog 100 7 = some (7, 1, 97) := by kernel_rfl
@[simp] theorem field100_8 : fieldT Try.prog 100 8 = some (8, 1, 3) := by kernel_rfl
@[simp] theorem places100 : placesT Try.prog 100 = some [(0, 1), (1, 1), (2, 1), (3, 1), (4, 1), (5, 1), (6, 1), (7, 1), (8, 1)] := by kernel_rfl
@[simp] theorem zero100 : zeroT Try.prog 100 = some (.agg #[.map none, .map none, .slice none 0 0, .slice none 0 0, .slice none 0 0, .slice none 0 0, .slice none 0 0, .map none, .int .i64 0]) := by kernel_rfl
@[simp] theorem size101 : sizeT Try.prog 101 = some 1 := by kernel_rfl
@[simp] theorem bytes101 : bytesT Try.prog 101 = some 16 := by kernel_rfl
@[simp] theorem agg101 : aggT Try.prog 101 = some false := by kernel_rfl
@[simp] theorem kind101 : kindT Try.prog 101 = some .iface := by kernel_rfl
@[simp] theorem zero101 : zeroT Try.prog 101 = some (.nilIface) := by kernel_rfl
@[simp] theorem size102 : sizeT Try.prog 102 = some 1 := by kernel_rfl
@[simp] theorem bytes102 : bytesT Try.prog 102 = some 16 := by kernel_rfl
@[simp] theorem agg102 : aggT Try.prog 102 = some false := by kernel_rfl
@[simp] theorem kind102 : kindT Try.prog 102 = some .iface := by kernel_rfl
@[simp] theorem zero102 : zeroT Try.prog 102 = some (.nilIface) := by kernel_rfl
@[simp] theorem size103 : sizeT Try.prog 103 = some 1 := by kernel_rfl
@[simp] theorem bytes103 : bytesT Try.prog 103 = some 8 := by kernel_rfl
@[simp] theorem agg103 : aggT Try.prog 103 = some false := by kernel_rfl
@[simp] theorem kind103 : kindT Try.prog 103 = some .func := by kernel_rfl
@[simp] theorem zero103 : zeroT Try.prog 103 = some (.nilFunc) := by kernel_rfl
@[simp] theorem size104 : sizeT Try.prog 104 = some 1 := by kernel_rfl
@[simp] theorem bytes104 : bytesT Try.prog 104 = some 8 := by kernel_rfl
@[simp] theorem agg104 : aggT Try.prog 104 = some false := by kernel_rfl
@[simp] theorem kind104 : kindT Try.prog 104 = some .func := by kernel_rfl
@[simp] theorem zero104 : zeroT Try.prog 104 = some (.nilFunc) := by kernel_rfl
@[simp] theorem size105 : sizeT Try.prog 105 = some 1 := by kernel_rfl
@[simp] theorem bytes105 : bytesT Try.prog 105 = some 8 := by kernel_rfl
@[simp] theorem agg105 : aggT Try.prog 105 = some false := by kernel_rfl
@[simp] theorem kind105 : kindT Try.prog 105 = some .func := by kernel_rfl
@[simp] theorem zero105 : zeroT Try.prog 105 = some (.nilFunc) := by kernel_rfl
@[simp] theorem size106 : sizeT Try.prog 106 = some 1 := by kernel_rfl
@[simp] theorem bytes106 : bytesT Try.prog 106 = some 8 := by kernel_rfl
@[simp] theorem agg106 : aggT Try.prog 106 = some false := by kernel_rfl
@[simp] theorem kind106 : kindT Try.prog 106 = some .func := by kernel_rfl
@[simp] theorem zero106 : zeroT Try.prog 106 = some (.nilFunc) := by kernel_rfl
@[simp] theorem size107 : sizeT Try.prog 107 = some 1 := by kernel_rfl
@[simp] theorem bytes107 : bytesT Try.prog 107 = some 8 := by kernel_rfl
@[simp] theorem agg107 : aggT Try.prog 107 = some false := by kernel_rfl
@[simp] theorem kind107 : kindT Try.prog 107 = some .func := by kernel_rfl
@[simp] theorem zero107 : zeroT Try.prog 107 = some (.nilFunc) := by kernel_rfl
@[simp] theorem size108 : sizeT Try.prog 108 = some 1 := by kernel_rfl
@[simp] theorem bytes108 : bytesT Try.prog 108 = some 0 := by kernel_rfl
@[simp] theorem agg108 : aggT Try.prog 108 = some false := by kernel_rfl
@[simp] theorem kind108 : kindT Try.prog 108 = some .other := by kernel_rfl
@[simp] theorem size109 : sizeT Try.prog 109 = some 1 := by kernel_rfl
@[simp] theorem bytes109 : bytesT Try.prog 109 = some 8 := by kernel_rfl
@[simp] theorem agg109 : aggT Try.prog 109 = some false := by kernel_rfl
@[simp] theorem kind109 : kindT Try.prog 109 = some .func := by kernel_rfl
@[simp] theorem zero109 : zeroT Try.prog 109 = some (.nilFunc) := by kernel_rfl
@[simp] theorem size110 : sizeT Try.prog 110 = some 1 := by kernel_rfl
@[simp] theorem bytes110 : bytesT Try.prog 110 = some 8 := by kernel_rfl
@[simp] theorem agg110 : aggT Try.prog 110 = some false := by kernel_rfl
@[simp] theorem kind110 : kindT Try.prog 110 = some .func := by kernel_rfl
@[simp] theorem zero110 : zeroT Try.prog 110 = some (.nilFunc) := by kernel_rfl
@[simp] theorem size111 : sizeT Try.prog 111 = some 1 := by kernel_rfl
@[simp] theorem bytes111 : bytesT Try.prog 111 = some 8 := by kernel_rfl
@[simp] theorem agg111 : aggT Try.prog 111 = some false := by kernel_rfl
@[simp] theorem kind111 : kindT Try.prog 111 = some .func := by kernel_rfl
@[simp] theorem zero111 : zeroT Try.prog 111 = some (.nilFunc) := by kernel_rfl
@[simp] theorem size112 : sizeT Try.prog 112 = some 1 := by kernel_rfl
@[simp] theorem bytes112 : bytesT Try.prog 112 = some 0 := by kernel_rfl
@[simp] theorem agg112 : aggT Try.prog 112 = some false := by kernel_rfl
@[simp] theorem kind112 : kindT Try.prog 112 = some .other := by kernel_rfl
@[simp] theorem size113 : sizeT Try.prog 113 = some 1 := by kernel_rfl
@[simp] theorem bytes113 : bytesT Try.prog 113 = some 8 := by kernel_rfl
@[simp] theorem agg113 : aggT Try.prog 113 = some false := by kernel_rfl
@[simp] theorem kind113 : kindT Try.prog 113 = some .func := by kernel_rfl
@[simp] theorem zero113 : zeroT Try.prog 113 = some (.nilFunc) := by kernel_rfl
@[simp] theorem size114 : sizeT Try.prog 114 = some 1 := by kernel_rfl
@[simp] theorem bytes114 : bytesT Try.prog 114 = some 24 := by kernel_rfl
@[simp] theorem agg114 : aggT Try.prog 114 = some false := by kernel_rfl
@[simp] theorem kind114 : kindT Try.prog 114 = some .slice := by kernel_rfl
@[simp] theorem elem114 : elemT Try.prog 114 = some 116 := by kernel_rfl
@[simp] theorem zero114 : zeroT Try.prog 114 = some (.slice none 0 0) := by kernel_rfl
@[simp] theorem size115 : sizeT Try.prog 115 = some 6 := by kernel_rfl
@[simp] theorem bytes115 : bytesT Try.prog 115 = some 72 := by kernel_rfl
@[simp] theorem agg115 : aggT Try.prog 115 = some true := by kernel_rfl
@[simp] theorem kind115 : kindT Try.prog 115 = some .struct := by kernel_rfl
@[simp] theorem field115_0 : fieldT Try.prog 115 0 = some (0, 1, 3) := by kernel_rfl
@[simp] theorem field115_1 : fieldT Try.prog 115 1 = some (1, 1, 3) := by kernel_rfl
@[simp] theorem field115_2 : fieldT Try.prog 115 2 = some (2, 1, 3) := by kernel_rfl
@[simp] theorem field115_3 : fieldT Try.prog 115 3 = some (3, 1, 3) := by kernel_rfl
@[simp] theorem field115_4 : fieldT Try.prog 115 4 = some (4, 1, 9) := by kernel_rfl
@[simp] theorem field115_5 : fieldT Try.prog 115 5 = some (5, 1, 114) := by kernel_rfl
@[simp] theorem places115 : placesT Try.prog 115 = some [(0, 1), (1, 1), (2, 1), (3, 1), (4, 1), (5, 1)] := by kernel_rfl
@[simp] theorem zero115 : zeroT Try.prog 115 = some (.agg #[.int .i64 0, .int .i64 0, .int .i64 0, .int .i64 0, .string "".toByteArray, .slice none 0 0]) := by kernel_rfl
@[simp] theorem size116 : sizeT Try.prog 116 = some 6 := by kernel_rfl
@[simp] theorem bytes116 : bytesT Try.prog 116 = some 72 := by kernel_rfl
@[simp] theorem agg116 : aggT Try.prog 116 = some true := by kernel_rfl
@[simp] theorem kind116 : kindT Try.prog 116 = some .struct := by kernel_rfl
@[simp] theorem field116_0 : fieldT Try.prog 116 0 = some (0, 1, 3) := by kernel_rfl
@[simp] theorem field116_1 : fieldT Try.prog 116 1 = some (1, 1, 3) := by kernel_rfl
@[simp] theorem field116_2 : fieldT Try.prog 116 2 = some (2, 1, 3) := by kernel_rfl
@[simp] theorem field116_3 : fieldT Try.prog 116 3 = some (3, 1, 3) := by kernel_rfl
@[simp] theorem field116_4 : fieldT Try.prog 116 4 = some (4, 1, 9) := by kernel_rfl
@[simp] theorem field116_5 : fieldT Try.prog 116 5 = some (5, 1, 114) := by kernel_rfl
@[simp] theorem places116 : placesT Try.prog 116 = some [(0, 1), (1, 1), (2, 1), (3, 1), (4, 1), (5, 1)] := by kernel_rfl
@[simp] theorem zero116 : zeroT Try.prog 116 = some (.agg #[.int .i64 0, .int .i64 0, .int .i64 0, .int .i64 0, .string "".toByteArray, .slice none 0 0]) := by kernel_rfl
@[simp] theorem size117 : sizeT Try.prog 117 = some 1 := by kernel_rfl
@[simp] theorem bytes117 : bytesT Try.prog 117 = some 24 := by kernel_rfl
@[simp] theorem agg117 : aggT Try.prog 117 = some false := by kernel_rfl
@[simp] theorem kind117 : kindT Try.prog 117 = some .slice := by kernel_rfl
@[simp] theorem elem117 : elemT Try.prog 117 = some 9 := by kernel_rfl
@[simp] theorem zero117 : zeroT Try.prog 117 = some (.slice none 0 0) := by kernel_rfl
@[simp] theorem size118 : sizeT Try.prog 118 = some 1 := by kernel_rfl
@[simp] theorem bytes118 : bytesT Try.prog 118 = some 24 := by kernel_rfl
@[simp] theorem agg118 : aggT Try.prog 118 = some false := by kernel_rfl
@[simp] theorem kind118 : kindT Try.prog 118 = some .slice := by kernel_rfl
@[simp] theorem elem118 : elemT Try.prog 118 = some 124 := by kernel_rfl
@[simp] theorem zero118 : zeroT Try.prog 118 = some (.slice none 0 0) := by kernel_rfl
@[simp] theorem size119 : sizeT Try.prog 119 = some 1 := by kernel_rfl
@[simp] theorem bytes119 : bytesT Try.prog 119 = some 24 := by kernel_rfl
@[simp] theorem agg119 : aggT Try.prog 119 = some false := by kernel_rfl
@[simp] theorem kind119 : kindT Try.prog 119 = some .slice := by kernel_rfl
@[simp] theorem elem119 : elemT Try.prog 119 = some 117 := by kernel_rfl
@[simp] theorem zero119 : zeroT Try.prog 119 = some (.slice none 0 0) := by kernel_rfl
@[simp] theorem size120 : sizeT Try.prog 120 = some 6 := by kernel_rfl
@[simp] theorem bytes120 : bytesT Try.prog 120 = some 144 := by kernel_rfl
@[simp] theorem agg120 : aggT Try.prog 120 = some true := by kernel_rfl
@[simp] theorem kind120 : kindT Try.prog 120 = some .struct := by kernel_rfl
@[simp] theorem field120_0 : fieldT Try.prog 120 0 = some (0, 1, 117) := by kernel_rfl
@[simp] theorem field120_1 : fieldT Try.prog 120 1 = some (1, 1, 118) := by kernel_rfl
@[simp] theorem field120_2 : fieldT Try.prog 120 2 = some (2, 1, 117) := by kernel_rfl
@[simp] theorem field120_3 : fieldT Try.prog 120 3 = some (3, 1, 52) := by kernel_rfl
@[simp] theorem field120_4 : fieldT Try.prog 120 4 = some (4, 1, 119) := by kernel_rfl
@[simp] theorem field120_5 : fieldT Try.prog 120 5 = some (5, 1, 52) := by kernel_rfl
@[simp] theorem places120 : placesT Try.prog 120 = some [(0, 1), (1, 1), (2, 1), (3, 1), (4, 1), (5, 1)] := by kernel_rfl
@[simp] theorem zero120 : zeroT Try.prog 120 = some (.agg #[.slice none 0 0, .slice none 0 0, .slice none 0 0, .slice none 0 0, .slice none 0 0, .slice none 0 0]) := by kernel_rfl
@[simp] theorem size121 : sizeT Try.prog 121 = some 6 := by kernel_rfl
@[simp] theorem bytes121 : bytesT Try.prog 121 = some 144 := by kernel_rfl
@[simp] theorem agg121 : aggT Try.prog 121 = some true := by kernel_rfl
@[simp] theorem kind121 : kindT Try.prog 121 = some .struct := by kernel_rfl
@[simp] theorem field121_0 : fieldT Try.prog 121 0 = some (0, 1, 117) := by kernel_rfl
@[simp] theorem field121_1 : fieldT Try.prog 121 1 = some (1, 1, 118) := by kernel_rfl
@[simp] theorem field121_2 : fieldT Try.prog 121 2 = some (2, 1, 117) := by kernel_rfl
@[simp] theorem field121_3 : fieldT Try.prog 121 3 = some (3, 1, 52) := by kernel_rfl
@[simp] theorem field121_4 : fieldT Try.prog 121 4 = some (4, 1, 119) := by kernel_rfl
@[simp] theorem field121_5 : fieldT Try.prog 121 5 = some (5, 1, 52) := by kernel_rfl
@[simp] theorem places121 : placesT Try.prog 121 = some [(0, 1), (1, 1), (2, 1), (3, 1), (4, 1), (5, 1)] := by kernel_rfl
@[simp] theorem zero121 : zeroT Try.prog 121 = some (.agg #[.slice none 0 0, .slice none 0 0, .slice none 0 0, .slice none 0 0, .slice none 0 0, .slice none 0 0]) := by kernel_rfl
@[simp] theorem size122 : sizeT Try.prog 122 = some 1 := by kernel_rfl
@[simp] theorem bytes122 : bytesT Try.prog 122 = some 8 := by kernel_rfl
@[simp] theorem agg122 : aggT Try.prog 122 = some false := by kernel_rfl
@[simp] theorem kind122 : kindT Try.prog 122 = some .func := by kernel_rfl
@[simp] theorem zero122 : zeroT Try.prog 122 = some (.nilFunc) := by kernel_rfl
@[simp] theorem size123 : sizeT Try.prog 123 = some 1 := by kernel_rfl
@[simp] theorem bytes123 : bytesT Try.prog 123 = some 8 := by kernel_rfl
@[simp] theorem agg123 : aggT Try.prog 123 = some false := by kernel_rfl
@[simp] theorem kind123 : kindT Try.prog 123 = some .func := by kernel_rfl
@[simp] theorem zero123 : zeroT Try.prog 123 = some (.nilFunc) := by kernel_rfl
@[simp] theorem size124 : sizeT Try.prog 124 = some 3 := by kernel_rfl
@[simp] theorem bytes124 : bytesT Try.prog 124 = some 24 := by kernel_rfl
@[simp] theorem agg124 : aggT Try.prog 124 = some true := by kernel_rfl
@[simp] theorem kind124 : kindT Try.prog 124 = some .struct := by kernel_rfl
@[simp] theorem field124_0 : fieldT Try.prog 124 0 = some (0, 1, 3) := by kernel_rfl
@[simp] theorem field124_1 : fieldT Try.prog 124 1 = some (1, 1, 3) := by kernel_rfl
@[simp] theorem field124_2 : fieldT Try.prog 124 2 = some (2, 1, 3) := by kernel_rfl
@[simp] theorem places124 : placesT Try.prog 124 = some [(0, 1), (1, 1), (2, 1)] := by kernel_rfl
@[simp] theorem zero124 : zeroT Try.prog 124 = some (.agg #[.int .i64 0, .int .i64 0, .int .i64 0]) := by kernel_rfl
@[simp] theorem size125 : sizeT Try.prog 125 = some 1 := by kernel_rfl
@[simp] theorem bytes125 : bytesT Try.prog 125 = some 0 := by kernel_rfl
@[simp] theorem agg125 : aggT Try.prog 125 = some false := by kernel_rfl
@[simp] theorem kind125 : kindT Try.prog 125 = some .other := by kernel_rfl
@[simp] theorem size126 : sizeT Try.prog 126 = some 1 := by kernel_rfl
@[simp] theorem bytes126 : bytesT Try.prog 126 = some 8 := by kernel_rfl
@[simp] theorem agg126 : aggT Try.prog 126 = some false := by kernel_rfl
@[simp] theorem kind126 : kindT Try.prog 126 = some .func := by kernel_rfl
@[simp] theorem zero126 : zeroT Try.prog 126 = some (.nilFunc) := by kernel_rfl
@[simp] theorem size127 : sizeT Try.prog 127 = some 1 := by kernel_rfl
@[simp] theorem bytes127 : bytesT Try.prog 127 = some 8 := by kernel_rfl
@[simp] theorem agg127 : aggT Try.prog 127 = some false := by kernel_rfl
@[simp] theorem kind127 : kindT Try.prog 127 = some .func := by kernel_rfl
@[simp] theorem zero127 : zeroT Try.prog 127 = some (.nilFunc) := by kernel_rfl
@[simp] theorem size128 : sizeT Try.prog 128 = some 1 := by kernel_rfl
@[simp] theorem bytes128 : bytesT Try.prog 128 = some 8 := by kernel_rfl
@[simp] theorem agg128 : aggT Try.prog 128 = some false := by kernel_rfl
@[simp] theorem kind128 : kindT Try.prog 128 = some .func := by kernel_rfl
@[simp] theorem zero128 : zeroT Try.prog 128 = some (.nilFunc) := by kernel_rfl
@[simp] theorem size129 : sizeT Try.prog 129 = some 1 := by kernel_rfl
@[simp] theorem bytes129 : bytesT Try.prog 129 = some 8 := by kernel_rfl
@[simp] theorem agg129 : aggT Try.prog 129 = some false := by kernel_rfl
@[simp] theorem kind129 : kindT Try.prog 129 = some .func := by kernel_rfl
@[simp] theorem zero129 : zeroT Try.prog 129 = some (.nilFunc) := by kernel_rfl
@[simp] theorem size130 : sizeT Try.prog 130 = some 1 := by kernel_rfl
@[simp] theorem bytes130 : bytesT Try.prog 130 = some 0 := by kernel_rfl
@[simp] theorem agg130 : aggT Try.prog 130 = some false := by kernel_rfl
@[simp] theorem kind130 : kindT Try.prog 130 = some .other := by kernel_rfl
@[simp] theorem size131 : sizeT Try.prog 131 = some 1 := by kernel_rfl
@[simp] theorem bytes131 : bytesT Try.prog 131 = some 8 := by kernel_rfl
@[simp] theorem agg131 : aggT Try.prog 131 = some false := by kernel_rfl
@[simp] theorem kind131 : kindT Try.prog 131 = some .func := by kernel_rfl
@[simp] theorem zero131 : zeroT Try.prog 131 = some (.nilFunc) := by kernel_rfl
@[simp] theorem size132 : sizeT Try.prog 132 = some 3 := by kernel_rfl
@[simp] theorem bytes132 : bytesT Try.prog 132 = some 32 := by kernel_rfl
@[simp] theorem agg132 : aggT Try.prog 132 = some true := by kernel_rfl
@[simp] theorem kind132 : kindT Try.prog 132 = some .struct := by kernel_rfl
@[simp] theorem field132_0 : fieldT Try.prog 132 0 = some (0, 1, 3) := by kernel_rfl
@[simp] theorem field132_1 : fieldT Try.prog 132 1 = some (1, 1, 9) := by kernel_rfl
@[simp] theorem field132_2 : fieldT Try.prog 132 2 = some (2, 1, 3) := by kernel_rfl
@[simp] theorem places132 : placesT Try.prog 132 = some [(0, 1), (1, 1), (2, 1)] := by kernel_rfl
@[simp] theorem zero132 : zeroT Try.prog 132 = some (.agg #[.int .i64 0, .string "".toByteArray, .int .i64 0]) := by kernel_rfl
@[simp] theorem size133 : sizeT Try.prog 133 = some 3 := by kernel_rfl
@[simp] theorem bytes133 : bytesT Try.prog 133 = some 32 := by kernel_rfl
@[simp] theorem agg133 : aggT Try.prog 133 = some true := by kernel_rfl
@[simp] theorem kind133 : kindT Try.prog 133 = some .struct := by kernel_rfl
@[simp] theorem field133_0 : fieldT Try.prog 133 0 = some (0, 1, 3) := by kernel_rfl
@[simp] theorem field133_1 : fieldT Try.prog 133 1 = some (1, 1, 9) := by kernel_rfl
@[simp] theorem field133_2 : fieldT Try.prog 133 2 = some (2, 1, 3) := by kernel_rfl
@[simp] theorem places133 : placesT Try.prog 133 = some [(0, 1), (1, 1), (2, 1)] := by kernel_rfl
@[simp] theorem zero133 : zeroT Try.prog 133 = some (.agg #[.int .i64 0, .string "".toByteArray, .int .i64 0]) := by kernel_rfl
@[simp] theorem size134 : sizeT Try.prog 134 = some 1 := by kernel_rfl
@[simp] theorem bytes134 : bytesT Try.prog 134 = some 24 := by kernel_rfl
@[simp] theorem agg134 : aggT Try.prog 134 = some false := by kernel_rfl
@[simp] theorem kind134 : kindT Try.prog 134 = some .slice := by kernel_rfl
@[simp] theorem elem134 : elemT Try.prog 134 = some 159 := by kernel_rfl
@[simp] theorem zero134 : zeroT Try.prog 134 = some (.slice none 0 0) := by kernel_rfl
@[simp] theorem size135 : sizeT Try.prog 135 = some 8 := by kernel_rfl
@[simp] theorem bytes135 : bytesT Try.prog 135 = some 152 := by kernel_rfl
@[simp] theorem agg135 : aggT Try.prog 135 = some true := by kernel_rfl
@[simp] theorem kind135 : kindT Try.prog 135 = some .struct := by kernel_rfl
@[simp] theorem field135_0 : fieldT Try.prog 135 0 = some (0, 1, 3) := by kernel_rfl
@[simp] theorem field135_1 : fieldT Try.prog 135 1 = some (1, 1, 3) := by kernel_rfl
@[simp] theorem field135_2 : fieldT Try.prog 135 2 = some (2, 1, 9) := by kernel_rfl
@[simp] theorem field135_3 : fieldT Try.prog 135 3 = some (3, 1, 114) := by kernel_rfl
@[simp] theorem field135_4 : fieldT Try.prog 135 4 = some (4, 1, 31) := by kernel_rfl
@[simp] theorem field135_5 : fieldT Try.prog 135 5 = some (5, 1, 31) := by kernel_rfl
@[simp] theorem field135_6 : fieldT Try.prog 135 6 = some (6, 1, 134) := by kernel_rfl
@[simp] theorem field135_7 : fieldT Try.prog 135 7 = some (7, 1, 30) := by kernel_rfl
@[simp] theorem places135 : placesT Try.prog 135 = some [(0, 1), (1, 1), (2, 1), (3, 1), (4, 1), (5, 1), (6, 1), (7, 1)] := by kernel_rfl
@[simp] theorem zero135 : zeroT Try.prog 135 = some (.agg #[.int .i64 0, .int .i64 0, .string "".toByteArray, .slice none 0 0, .slice none 0 0, .slice none 0 0, .slice none 0 0, .slice none 0 0]) := by kernel_rfl
@[simp] theorem size136 : sizeT Try.prog 136 = some 8 := by kernel_rfl
@[simp] theorem bytes136 : bytesT Try.prog 136 = some 152 := by kernel_rfl
@[simp] theorem agg136 : aggT Try.prog 136 = some true := by kernel_rfl
@[simp] theorem kind136 : kindT Try.prog 136 = some .struct := by kernel_rfl
@[simp] theorem field136_0 : fieldT Try.prog 136 0 = some (0, 1, 3) := by kernel_rfl
@[simp] theorem field136_1 : fieldT Try.prog 136 1 = some (1, 1, 3) := by kernel_rfl
@[simp] theorem field136_2 : fieldT Try.prog 136 2 = some (2, 1, 9) := by kernel_rfl
@[simp] theorem field136_3 : fieldT Try.prog 136 3 = some (3, 1, 114) := by kernel_rfl
@[simp] theorem field136_4 : fieldT Try.prog 136 4 = some (4, 1, 31) := by kernel_rfl
@[simp] theorem field136_5 : fieldT Try.prog 136 5 = some (5, 1, 31) := by kernel_rfl
@[simp] theorem field136_6 : fieldT Try.prog 136 6 = some (6, 1, 134) := by kernel_rfl
@[simp] theorem field136_7 : fieldT Try.prog 136 7 = some (7, 1, 30) := by kernel_rfl
@[simp] theorem places136 : placesT Try.prog 136 = some [(0, 1), (1, 1), (2, 1), (3, 1), (4, 1), (5, 1), (6, 1), (7, 1)] := by kernel_rfl
@[simp] theorem zero136 : zeroT Try.prog 136 = some (.agg #[.int .i64 0, .int .i64 0, .string "".toByteArray, .slice none 0 0, .slice none 0 0, .slice none 0 0, .slice none 0 0, .slice none 0 0]) := by kernel_rfl
@[simp] theorem size137 : sizeT Try.prog 137 = some 1 := by kernel_rfl
@[simp] theorem bytes137 : bytesT Try.prog 137 = some 8 := by kernel_rfl
@[simp] theorem agg137 : aggT Try.prog 137 = some false := by kernel_rfl
@[simp] theorem kind137 : kindT Try.prog 137 = some .func := by kernel_rfl
@[simp] theorem zero137 : zeroT Try.prog 137 = some (.nilFunc) := by kernel_rfl
@[simp] theorem size138 : sizeT Try.prog 138 = some 0 := by kernel_rfl
@[simp] theorem bytes138 : bytesT Try.prog 138 = some 0 := by kernel_rfl
@[simp] theorem agg138 : aggT Try.prog 138 = some true := by kernel_rfl
@[simp] theorem kind138 : kindT Try.prog 138 = some .struct := by kernel_rfl
@[simp] theorem places138 : placesT Try.prog 138 = some [] := by kernel_rfl
@[simp] theorem zero138 : zeroT Try.prog 138 = some (.agg #[]) := by kernel_rfl
@[simp] theorem size139 : sizeT Try.prog 139 = some 0 := by kernel_rfl
@[simp] theorem bytes139 : bytesT Try.prog 139 = some 0 := by kernel_rfl
@[simp] theorem agg139 : aggT Try.prog 139 = some true := by kernel_rfl
@[simp] theorem kind139 : kindT Try.prog 139 = some .struct := by kernel_rfl
@[simp] theorem places139 : placesT Try.prog 139 = some [] := by kernel_rfl
@[simp] theorem zero139 : zeroT Try.prog 139 = some (.agg #[]) := by kernel_rfl
@[simp] theorem size140 : sizeT Try.prog 140 = some 0 := by kernel_rfl
@[simp] theorem bytes140 : bytesT Try.prog 140 = some 0 := by kernel_rfl
@[simp] theorem agg140 : aggT Try.prog 140 = some true := by kernel_rfl
@[simp] theorem kind140 : kindT Try.prog 140 = some .struct := by kernel_rfl
@[simp] theorem places140 : placesT Try.prog 140 = some [] := by kernel_rfl
@[simp] theorem zero140 : zeroT Try.prog 140 = some (.agg #[]) := by kernel_rfl
@[simp] theorem size141 : sizeT Try.prog 141 = some 0 := by kernel_rfl
@[simp] theorem bytes141 : bytesT Try.prog 141 = some 0 := by kernel_rfl
@[simp] theorem agg141 : aggT Try.prog 141 = some true := by kernel_rfl
@[simp] theorem kind141 : kindT Try.prog 141 = some .struct := by kernel_rfl
@[simp] theorem places141 : placesT Try.prog 141 = some [] := by kernel_rfl
@[simp] theorem zero141 : zeroT Try.prog 141 = some (.agg #[]) := by kernel_rfl
@[simp] theorem size142 : sizeT Try.prog 142 = some 0 := by kernel_rfl
@[simp] theorem bytes142 : bytesT Try.prog 142 = some 0 := by kernel_rfl
@[simp] theorem agg142 : aggT Try.prog 142 = some true := by kernel_rfl
@[simp] theorem kind142 : kindT Try.prog 142 = some .struct := by kernel_rfl
@[simp] theorem field142_0 : fieldT Try.prog 142 0 = some (0, 0, 141) := by kernel_rfl
@[simp] theorem places142 : placesT Try.prog 142 = some [(0, 0)] := by kernel_rfl
@[simp] theorem zero142 : zeroT Try.prog 142 = some (.agg #[]) := by kernel_rfl
@[simp] theorem size143 : sizeT Try.prog 143 = some 0 := by kernel_rfl
@[simp] theorem bytes143 : bytesT Try.prog 143 = some 0 := by kernel_rfl
@[simp] theorem agg143 : aggT Try.prog 143 = some true := by kernel_rfl
@[simp] theorem kind143 : kindT Try.prog 143 = some .struct := by kernel_rfl
@[simp] theorem field143_0 : fieldT Try.prog 143 0 = some (0, 0, 141) := by kernel_rfl
@[simp] theorem places143 : placesT Try.prog 143 = some [(0, 0)] := by kernel_rfl
@[simp] theorem zero143 : zeroT Try.prog 143 = some (.agg #[]) := by kernel_rfl
@[simp] theorem size144 : sizeT Try.prog 144 = some 1 := by kernel_rfl
@[simp] theorem bytes144 : bytesT Try.prog 144 = some 8 := by kernel_rfl
@[simp] theorem agg144 : aggT Try.prog 144 = some false := by kernel_rfl
@[simp] theorem kind144 : kindT Try.prog 144 = some .func := by kernel_rfl
@[simp] theorem zero144 : zeroT Try.prog 144 = some (.nilFunc) := by kernel_rfl
@[simp] theorem size145 : sizeT Try.prog 145 = some 1 := by kernel_rfl
@[simp] theorem bytes145 : bytesT Try.prog 145 = some 8 := by kernel_rfl
@[simp] theorem agg145 : aggT Try.prog 145 = some false := by kernel_rfl
@[simp] theorem kind145 : kindT Try.prog 145 = some .func := by kernel_rfl
@[simp] theorem zero145 : zeroT Try.prog 145 = some (.nilFunc) := by kernel_rfl
@[simp] theorem size146 : sizeT Try.prog 146 = some 1 := by kernel_rfl
@[simp] theorem bytes146 : bytesT Try.prog 146 = some 8 := by kernel_rfl
@[simp] theorem agg146 : aggT Try.prog 146 = some false := by kernel_rfl
@[simp] theorem kind146 : kindT Try.prog 146 = some .ptr := by kernel_rfl
@[simp] theorem zero146 : zeroT Try.prog 146 = some (.pointer none) := by kernel_rfl
@[simp] theorem size147 : sizeT Try.prog 147 = some 4 := by kernel_rfl
@[simp] theorem bytes147 : bytesT Try.prog 147 = some 56 := by kernel_rfl
@[simp] theorem agg147 : aggT Try.prog 147 = some true := by kernel_rfl
@[simp] theorem kind147 : kindT Try.prog 147 = some .struct := by kernel_rfl
@[simp] theorem field147_0 : fieldT Try.prog 147 0 = some (0, 1, 39) := by kernel_rfl
@[simp] theorem field147_1 : fieldT Try.prog 147 1 = some (1, 1, 3) := by kernel_rfl
@[simp] theorem field147_2 : fieldT Try.prog 147 2 = some (2, 1, 117) := by kernel_rfl
@[simp] theorem field147_3 : fieldT Try.prog 147 3 = some (3, 1, 9) := by kernel_rfl
@[simp] theorem places147 : placesT Try.prog 147 = some [(0, 1), (1, 1), (2, 1), (3, 1)] := by kernel_rfl
@[simp] theorem zero147 : zeroT Try.prog 147 = some (.agg #[.pointer none, .int .i64 0, .slice none 0 0, .string "".toByteArray]) := by kernel_rfl
@[simp] theorem size148 : sizeT Try.prog 148 = some 4 := by kernel_rfl
@[simp] theorem bytes148 : bytesT Try.prog 148 = some 56 := by kernel_rfl
@[simp] theorem agg148 : aggT Try.prog 148 = some true := by kernel_rfl
@[simp] theorem kind148 : kindT Try.prog 148 = some .struct := by kernel_rfl
@[simp] theorem field148_0 : fieldT Try.prog 148 0 = some (0, 1, 39) := by kernel_rfl
@[simp] theorem field148_1 : fieldT Try.prog 148 1 = some (1, 1, 3) := by kernel_rfl
@[simp] theorem field148_2 : fieldT Try.prog 148 2 = some (2, 1, 117) := by kernel_rfl
@[simp] theorem field148_3 : fieldT Try.prog 148 3 = some (3, 1, 9) := by kernel_rfl
@[simp] theorem places148 : placesT Try.prog 148 = some [(0, 1), (1, 1), (2, 1), (3, 1)] := by kernel_rfl
@[simp] theorem zero148 : zeroT Try.prog 148 = some (.agg #[.pointer none, .int .i64 0, .slice none 0 0, .string "".toByteArray]) := by kernel_rfl
@[simp] theorem size149 : sizeT Try.prog 149 = some 1 := by kernel_rfl
@[simp] theorem bytes149 : bytesT Try.prog 149 = some 8 := by kernel_rfl
@[simp] theorem agg149 : aggT Try.prog 149 = some false := by kernel_rfl
@[simp] theorem kind149 : kindT Try.prog 149 = some .func := by kernel_rfl
@[simp] theorem zero149 : zeroT Try.prog 149 = some (.nilFunc) := by kernel_rfl
@[simp] theorem size150 : sizeT Try.prog 150 = some 1 := by kernel_rfl
@[simp] theorem bytes150 : bytesT Try.prog 150 = some 8 := by kernel_rfl
@[simp] theorem agg150 : aggT Try.prog 150 = some false := by kernel_rfl
@[simp] theorem kind150 : kindT Try.prog 150 = some .func := by kernel_rfl
@[simp] theorem zero150 : zeroT Try.prog 150 = some (.nilFunc) := by kernel_rfl
@[simp] theorem size151 : sizeT Try.prog 151 = some 1 := by kernel_rfl
@[simp] theorem bytes151 : bytesT Try.prog 151 = some 8 := by kernel_rfl
@[simp] theorem agg151 : aggT Try.prog 151 = some false := by kernel_rfl
@[simp] theorem kind151 : kindT Try.prog 151 = some .ptr := by kernel_rfl
@[simp] theorem zero151 : zeroT Try.prog 151 = some (.pointer none) := by kernel_rfl
@[simp] theorem size152 : sizeT Try.prog 152 = some 6 := by kernel_rfl
@[simp] theorem bytes152 : bytesT Try.prog 152 = some 72 := by kernel_rfl
@[simp] theorem agg152 : aggT Try.prog 152 = some true := by kernel_rfl
@[simp] theorem kind152 : kindT Try.prog 152 = some .struct := by kernel_rfl
@[simp] theorem field152_0 : fieldT Try.prog 152 0 = some (0, 1, 63) := by kernel_rfl
@[simp] theorem field152_1 : fieldT Try.prog 152 1 = some (1, 1, 3) := by kernel_rfl
@[simp] theorem field152_2 : fieldT Try.prog 152 2 = some (2, 1, 117) := by kernel_rfl
@[simp] theorem field152_3 : fieldT Try.prog 152 3 = some (3, 1, 9) := by kernel_rfl
@[simp] theorem field152_4 : fieldT Try.prog 152 4 = some (4, 2, 36) := by kernel_rfl
@[simp] theorem places152 : placesT Try.prog 152 = some [(0, 1), (1, 1), (2, 1), (3, 1), (4, 2)] := by kernel_rfl
@[simp] theorem zero152 : zeroT Try.prog 152 = some (.agg #[.pointer none, .int .i64 0, .slice none 0 0, .string "".toByteArray, .int .i64 0, .int .i64 0]) := by kernel_rfl
@[simp] theorem size153 : sizeT Try.prog 153 = some 6 := by kernel_rfl
@[simp] theorem bytes153 : bytesT Try.prog 153 = some 72 := by kernel_rfl
@[simp] theorem agg153 : aggT Try.prog 153 = some true := by kernel_rfl
@[simp] theorem kind153 : kindT Try.prog 153 = some .struct := by kernel_rfl
@[simp] theorem field153_0 : fieldT Try.prog 153 0 = some (0, 1, 63) := by kernel_rfl
@[simp] theorem field153_1 : fieldT Try.prog 153 1 = some (1, 1, 3) := by kernel_rfl
@[simp] theorem field153_2 : fieldT Try.prog 153 2 = some (2, 1, 117) := by kernel_rfl
@[simp] theorem field153_3 : fieldT Try.prog 153 3 = some (3, 1, 9) := by kernel_rfl
@[simp] theorem field153_4 : fieldT Try.prog 153 4 = some (4, 2, 36) := by kernel_rfl
@[simp] theorem places153 : placesT Try.prog 153 = some [(0, 1), (1, 1), (2, 1), (3, 1), (4, 2)] := by kernel_rfl
@[simp] theorem zero153 : zeroT Try.prog 153 = some (.agg #[.pointer none, .int .i64 0, .slice none 0 0, .string "".toByteArray, .int .i64 0, .int .i64 0]) := by kernel_rfl
@[simp] theorem size154 : sizeT Try.prog 154 = some 1 := by kernel_rfl
@[simp] theorem bytes154 : bytesT Try.prog 154 = some 8 := by kernel_rfl
@[simp] theorem agg154 : aggT Try.prog 154 = some false := by kernel_rfl
@[simp] theorem kind154 : kindT Try.prog 154 = some .func := by kernel_rfl
@[simp] theorem zero154 : zeroT Try.prog 154 = some (.nilFunc) := by kernel_rfl
@[simp] theorem size155 : sizeT Try.prog 155 = some 32 := by kernel_rfl
@[simp] theorem bytes155 : bytesT Try.prog 155 = some 512 := by kernel_rfl
@[simp] theorem agg155 : aggT Try.prog 155 = some true := by kernel_rfl
@[simp] theorem kind155 : kindT Try.prog 155 = some .array := by kernel_rfl
@[simp] theorem placesN155 : placesT Try.prog 155 = none := by kernel_rfl
@[simp] theorem arr155 : arrT Try.prog 155 = some (32, 9) := by kernel_rfl
@[simp] theorem zero155 : zeroT Try.prog 155 = some (.agg #[.string "".toByteArray, .string "".toByteArray, .string "".toByteArray, .string "".toByteArray, .string "".toByteArray, .string "".toByteArray, .string "".toByteArray, .string "".toByteArray, .string "".toByteArray, .string "".toByteArray, .string "".toByteArray, .string "".toByteArray, .string "".toByteArray, .string "".toByteArray, .string "".toByteArray, .string "".toByteArray, .string "".toByteArray, .string "".toByteArray, .string "".toByteArray, .string "".toByteArray, .string "".toByteArray, .string "".toByteArray, .string "".toByteArray, .string "".toByteArray, .string "".toByteArray, .string "".toByteArray, .string "".toByteArray, .string "".toByteArray, .string "".toByteArray, .string "".toByteArray, .string "".toByteArray, .string "".toByteArray]) := by kernel_rfl
@[simp] theorem size156 : sizeT Try.prog 156 = some 1 := by kernel_rfl
@[simp] theorem bytes156 : bytesT Try.prog 156 = some 8 := by kernel_rfl
@[simp] theorem agg156 : aggT Try.prog 156 = some false := by kernel_rfl
@[simp] theorem kind156 : kindT Try.prog 156 = some .func := by kernel_rfl
@[simp] theorem zero156 : zeroT Try.prog 156 = some (.nilFunc) := by kernel_rfl
@[simp] theorem size157 : sizeT Try.prog 157 = some 1 := by kernel_rfl
@[simp] theorem bytes157 : bytesT Try.prog 157 = some 8 := by kernel_rfl
@[simp] theorem agg157 : aggT Try.prog 157 = some false := by kernel_rfl
@[simp] theorem kind157 : kindT Try.prog 157 = some .func := by kernel_rfl
@[simp] theorem zero157 : zeroT Try.prog 157 = some (.nilFunc) := by kernel_rfl
@[simp] theorem size158 : sizeT Try.prog 158 = some 4 := by kernel_rfl
@[simp] theorem bytes158 : bytesT Try.prog 158 = some 72 := by kernel_rfl
@[simp] theorem agg158 : aggT Try.prog 158 = some true := by kernel_rfl
@[simp] theorem kind158 : kindT Try.prog 158 = some .struct := by kernel_rfl
@[simp] theorem field158_0 : fieldT Try.prog 158 0 = some (0, 1, 3) := by kernel_rfl
@[simp] theorem field158_1 : fieldT Try.prog 158 1 = some (1, 1, 9) := by kernel_rfl
@[simp] theorem field158_2 : fieldT Try.prog 158 2 = some (2, 1, 114) := by kernel_rfl
@[simp] theorem field158_3 : fieldT Try.prog 158 3 = some (3, 1, 30) := by kernel_rfl
@[simp] theorem places158 : placesT Try.prog 158 = some [(0, 1), (1, 1), (2, 1), (3, 1)] := by kernel_rfl
@[simp] theorem zero158 : zeroT Try.prog 158 = some (.agg #[.int .i64 0, .string "".toByteArray, .slice none 0 0, .slice none 0 0]) := by kernel_rfl
@[simp] theorem size159 : sizeT Try.prog 159 = some 4 := by kernel_rfl
@[simp] theorem bytes159 : bytesT Try.prog 159 = some 72 := by kernel_rfl
@[simp] theorem agg159 : aggT Try.prog 159 = some true := by kernel_rfl
@[simp] theorem kind159 : kindT Try.prog 159 = some .struct := by kernel_rfl
@[simp] theorem field159_0 : fieldT Try.prog 159 0 = some (0, 1, 3) := by kernel_rfl
@[simp] theorem field159_1 : fieldT Try.prog 159 1 = some (1, 1, 9) := by kernel_rfl
@[simp] theorem field159_2 : fieldT Try.prog 159 2 = some (2, 1, 114) := by kernel_rfl
@[simp] theorem field159_3 : fieldT Try.prog 159 3 = some (3, 1, 30) := by kernel_rfl
@[simp] theorem places159 : placesT Try.prog 159 = some [(0, 1), (1, 1), (2, 1), (3, 1)] := by kernel_rfl
@[simp] theorem zero159 : zeroT Try.prog 159 = some (.agg #[.int .i64 0, .string "".toByteArray, .slice none 0 0, .slice none 0 0]) := by kernel_rfl
@[simp] theorem size160 : sizeT Try.prog 160 = some 1 := by kernel_rfl
@[simp] theorem bytes160 : bytesT Try.prog 160 = some 8 := by kernel_rfl
@[simp] theorem agg160 : aggT Try.prog 160 = some false := by kernel_rfl
@[simp] theorem kind160 : kindT Try.prog 160 = some .func := by kernel_rfl
@[simp] theorem zero160 : zeroT Try.prog 160 = some (.nilFunc) := by kernel_rfl
@[simp] theorem size161 : sizeT Try.prog 161 = some 1 := by kernel_rfl
@[simp] theorem bytes161 : bytesT Try.prog 161 = some 8 := by kernel_rfl
@[simp] theorem agg161 : aggT Try.prog 161 = some false := by kernel_rfl
@[simp] theorem kind161 : kindT Try.prog 161 = some .func := by kernel_rfl
@[simp] theorem zero161 : zeroT Try.prog 161 = some (.nilFunc) := by kernel_rfl
@[simp] theorem size162 : sizeT Try.prog 162 = some 1 := by kernel_rfl
@[simp] theorem bytes162 : bytesT Try.prog 162 = some 24 := by kernel_rfl
@[simp] theorem agg162 : aggT Try.prog 162 = some false := by kernel_rfl
@[simp] theorem kind162 : kindT Try.prog 162 = some .slice := by kernel_rfl
@[simp] theorem elem162 : elemT Try.prog 162 = some 69 := by kernel_rfl
@[simp] theorem zero162 : zeroT Try.prog 162 = some (.slice none 0 0) := by kernel_rfl
@[simp] theorem size163 : sizeT Try.prog 163 = some 1 := by kernel_rfl
@[simp] theorem bytes163 : bytesT Try.prog 163 = some 8 := by kernel_rfl
@[simp] theorem agg163 : aggT Try.prog 163 = some false := by kernel_rfl
@[simp] theorem kind163 : kindT Try.prog 163 = some .func := by kernel_rfl
@[simp] theorem zero163 : zeroT Try.prog 163 = some (.nilFunc) := by kernel_rfl
@[simp] theorem size164 : sizeT Try.prog 164 = some 1 := by kernel_rfl
@[simp] theorem bytes164 : bytesT Try.prog 164 = some 0 := by kernel_rfl
@[simp] theorem agg164 : aggT Try.prog 164 = some false := by kernel_rfl
@[simp] theorem kind164 : kindT Try.prog 164 = some .other := by kernel_rfl
@[simp] theorem size165 : sizeT Try.prog 165 = some 1 := by kernel_rfl
@[simp] theorem bytes165 : bytesT Try.prog 165 = some 8 := by kernel_rfl
@[simp] theorem agg165 : aggT Try.prog 165 = some false := by kernel_rfl
@[simp] theorem kind165 : kindT Try.prog 165 = some .func := by kernel_rfl
@[simp] theorem zero165 : zeroT Try.prog 165 = some (.nilFunc) := by kernel_rfl
@[simp] theorem size166 : sizeT Try.prog 166 = some 1 := by kernel_rfl
@[simp] theorem bytes166 : bytesT Try.prog 166 = some 8 := by kernel_rfl
@[simp] theorem agg166 : aggT Try.prog 166 = some false := by kernel_rfl
@[simp] theorem kind166 : kindT Try.prog 166 = some .func := by kernel_rfl
@[simp] theorem zero166 : zeroT Try.prog 166 = some (.nilFunc) := by kernel_rfl
@[simp] theorem size167 : sizeT Try.prog 167 = some 1 := by kernel_rfl
@[simp] theorem bytes167 : bytesT Try.prog 167 = some 8 := by kernel_rfl
@[simp] theorem agg167 : aggT Try.prog 167 = some false := by kernel_rfl
@[simp] theorem kind167 : kindT Try.prog 167 = some .func := by kernel_rfl
@[simp] theorem zero167 : zeroT Try.prog 167 = some (.nilFunc) := by kernel_rfl
@[simp] theorem size168 : sizeT Try.prog 168 = some 1 := by kernel_rfl
@[simp] theorem bytes168 : bytesT Try.prog 168 = some 8 := by kernel_rfl
@[simp] theorem agg168 : aggT Try.prog 168 = some false := by kernel_rfl
@[simp] theorem kind168 : kindT Try.prog 168 = some .func := by kernel_rfl
@[simp] theorem zero168 : zeroT Try.prog 168 = some (.nilFunc) := by kernel_rfl
@[simp] theorem size169 : sizeT Try.prog 169 = some 1 := by kernel_rfl
@[simp] theorem bytes169 : bytesT Try.prog 169 = some 8 := by kernel_rfl
@[simp] theorem agg169 : aggT Try.prog 169 = some false := by kernel_rfl
@[simp] theorem kind169 : kindT Try.prog 169 = some .func := by kernel_rfl
@[simp] theorem zero169 : zeroT Try.prog 169 = some (.nilFunc) := by kernel_rfl
@[simp] theorem size170 : sizeT Try.prog 170 = some 1 := by kernel_rfl
@[simp] theorem bytes170 : bytesT Try.prog 170 = some 8 := by kernel_rfl
@[simp] theorem agg170 : aggT Try.prog 170 = some false := by kernel_rfl
@[simp] theorem kind170 : kindT Try.prog 170 = some .func := by kernel_rfl
@[simp] theorem zero170 : zeroT Try.prog 170 = some (.nilFunc) := by kernel_rfl
@[simp] theorem size171 : sizeT Try.prog 171 = some 1 := by kernel_rfl
@[simp] theorem bytes171 : bytesT Try.prog 171 = some 8 := by kernel_rfl
@[simp] theorem agg171 : aggT Try.prog 171 = some false := by kernel_rfl
@[simp] theorem kind171 : kindT Try.prog 171 = some .func := by kernel_rfl
@[simp] theorem zero171 : zeroT Try.prog 171 = some (.nilFunc) := by kernel_rfl
@[simp] theorem size172 : sizeT Try.prog 172 = some 1 := by kernel_rfl
@[simp] theorem bytes172 : bytesT Try.prog 172 = some 8 := by kernel_rfl
@[simp] theorem agg172 : aggT Try.prog 172 = some false := by kernel_rfl
@[simp] theorem kind172 : kindT Try.prog 172 = some .func := by kernel_rfl
@[simp] theorem zero172 : zeroT Try.prog 172 = some (.nilFunc) := by kernel_rfl
@[simp] theorem size173 : sizeT Try.prog 173 = some 1 := by kernel_rfl
@[simp] theorem bytes173 : bytesT Try.prog 173 = some 8 := by kernel_rfl
@[simp] theorem agg173 : aggT Try.prog 173 = some false := by kernel_rfl
@[simp] theorem kind173 : kindT Try.prog 173 = some .func := by kernel_rfl
@[simp] theorem zero173 : zeroT Try.prog 173 = some (.nilFunc) := by kernel_rfl
@[simp] theorem size174 : sizeT Try.prog 174 = some 1 := by kernel_rfl
@[simp] theorem bytes174 : bytesT Try.prog 174 = some 8 := by kernel_rfl
@[simp] theorem agg174 : aggT Try.prog 174 = some false := by kernel_rfl
@[simp] theorem kind174 : kindT Try.prog 174 = some .func := by kernel_rfl
@[simp] theorem zero174 : zeroT Try.prog 174 = some (.nilFunc) := by kernel_rfl
@[simp] theorem size175 : sizeT Try.prog 175 = some 1 := by kernel_rfl
@[simp] theorem bytes175 : bytesT Try.prog 175 = some 8 := by kernel_rfl
@[simp] theorem agg175 : aggT Try.prog 175 = some false := by kernel_rfl
@[simp] theorem kind175 : kindT Try.prog 175 = some .func := by kernel_rfl
@[simp] theorem zero175 : zeroT Try.prog 175 = some (.nilFunc) := by kernel_rfl
@[simp] theorem size176 : sizeT Try.prog 176 = some 1 := by kernel_rfl
@[simp] theorem bytes176 : bytesT Try.prog 176 = some 8 := by kernel_rfl
@[simp] theorem agg176 : aggT Try.prog 176 = some false := by kernel_rfl
@[simp] theorem kind176 : kindT Try.prog 176 = some .func := by kernel_rfl
@[simp] theorem zero176 : zeroT Try.prog 176 = some (.nilFunc) := by kernel_rfl
@[simp] theorem size177 : sizeT Try.prog 177 = some 1 := by kernel_rfl
@[simp] theorem bytes177 : bytesT Try.prog 177 = some 0 := by kernel_rfl
@[simp] theorem agg177 : aggT Try.prog 177 = some false := by kernel_rfl
@[simp] theorem kind177 : kindT Try.prog 177 = some .other := by kernel_rfl
@[simp] theorem size178 : sizeT Try.prog 178 = some 1 := by kernel_rfl
@[simp] theorem bytes178 : bytesT Try.prog 178 = some 8 := by kernel_rfl
@[simp] theorem agg178 : aggT Try.prog 178 = some false := by kernel_rfl
@[simp] theorem kind178 : kindT Try.prog 178 = some .func := by kernel_rfl
@[simp] theorem zero178 : zeroT Try.prog 178 = some (.nilFunc) := by kernel_rfl
@[simp] theorem size179 : sizeT Try.prog 179 = some 1 := by kernel_rfl
@[simp] theorem bytes179 : bytesT Try.prog 179 = some 8 := by kernel_rfl
@[simp] theorem agg179 : aggT Try.prog 179 = some false := by kernel_rfl
@[simp] theorem kind179 : kindT Try.prog 179 = some .func := by kernel_rfl
@[simp] theorem zero179 : zeroT Try.prog 179 = some (.nilFunc) := by kernel_rfl
@[simp] theorem size180 : sizeT Try.prog 180 = some 1 := by kernel_rfl
@[simp] theorem bytes180 : bytesT Try.prog 180 = some 8 := by kernel_rfl
@[simp] theorem agg180 : aggT Try.prog 180 = some false := by kernel_rfl
@[simp] theorem kind180 : kindT Try.prog 180 = some .func := by kernel_rfl
@[simp] theorem zero180 : zeroT Try.prog 180 = some (.nilFunc) := by kernel_rfl
@[simp] theorem size181 : sizeT Try.prog 181 = some 13 := by kernel_rfl
@[simp] theorem bytes181 : bytesT Try.prog 181 = some 208 := by kernel_rfl
@[simp] theorem agg181 : aggT Try.prog 181 = some true := by kernel_rfl
@[simp] theorem kind181 : kindT Try.prog 181 = some .array := by kernel_rfl
@[simp] theorem placesN181 : placesT Try.prog 181 = none := by kernel_rfl
@[simp] theorem arr181 : arrT Try.prog 181 = some (13, 9) := by kernel_rfl
@[simp] theorem zero181 : zeroT Try.prog 181 = some (.agg #[.string "".toByteArray, .string "".toByteArray, .string "".toByteArray, .string "".toByteArray, .string "".toByteArray, .string "".toByteArray, .string "".toByteArray, .string "".toByteArray, .string "".toByteArray, .string "".toByteArray, .string "".toByteArray, .string "".toByteArray, .string "".toByteArray]) := by kernel_rfl
@[simp] theorem size182 : sizeT Try.prog 182 = some 13 := by kernel_rfl
@[simp] theorem bytes182 : bytesT Try.prog 182 = some 104 := by kernel_rfl
@[simp] theorem agg182 : aggT Try.prog 182 = some true := by kernel_rfl
@[simp] theorem kind182 : kindT Try.prog 182 = some .array := by kernel_rfl
@[simp] theorem placesN182 : placesT Try.prog 182 = none := by kernel_rfl
@[simp] theorem arr182 : arrT Try.prog 182 = some (13, 3) := by kernel_rfl
@[simp] theorem zero182 : zeroT Try.prog 182 = some (.agg #[.int .i64 0, .int .i64 0, .int .i64 0, .int .i64 0, .int .i64 0, .int .i64 0, .int .i64 0, .int .i64 0, .int .i64 0, .int .i64 0, .int .i64 0, .int .i64 0, .int .i64 0]) := by kernel_rfl
@[simp] theorem size183 : sizeT Try.prog 183 = some 1 := by kernel_rfl
@[simp] theorem bytes183 : bytesT Try.prog 183 = some 8 := by kernel_rfl
@[simp] theorem agg183 : aggT Try.prog 183 = some false := by kernel_rfl
@[simp] theorem kind183 : kindT Try.prog 183 = some .func := by kernel_rfl
@[simp] theorem zero183 : zeroT Try.prog 183 = some (.nilFunc) := by kernel_rfl
@[simp] theorem size184 : sizeT Try.prog 184 = some 1 := by kernel_rfl
@[simp] theorem bytes184 : bytesT Try.prog 184 = some 8 := by kernel_rfl
@[simp] theorem agg184 : aggT Try.prog 184 = some false := by kernel_rfl
@[simp] theorem kind184 : kindT Try.prog 184 = some .func := by kernel_rfl
@[simp] theorem zero184 : zeroT Try.prog 184 = some (.nilFunc) := by kernel_rfl
@[simp] theorem size185 : sizeT Try.prog 185 = some 4 := by kernel_rfl
@[simp] theorem bytes185 : bytesT Try.prog 185 = some 40 := by kernel_rfl
@[simp] theorem agg185 : aggT Try.prog 185 = some true := by kernel_rfl
@[simp] theorem kind185 : kindT Try.prog 185 = some .struct := by kernel_rfl
@[simp] theorem field185_0 : fieldT Try.prog 185 0 = some (0, 1, 17) := by kernel_rfl
@[simp] theorem field185_1 : fieldT Try.prog 185 1 = some (1, 1, 17) := by kernel_rfl
@[simp] theorem field185_2 : fieldT Try.prog 185 2 = some (2, 1, 17) := by kernel_rfl
@[simp] theorem field185_3 : fieldT Try.prog 185 3 = some (3, 1, 9) := by kernel_rfl
@[simp] theorem places185 : placesT Try.prog 185 = some [(0, 1), (1, 1), (2, 1), (3, 1)] := by kernel_rfl
@[simp] theorem zero185 : zeroT Try.prog 185 = some (.agg #[.pointer none, .pointer none, .pointer none, .string "".toByteArray]) := by kernel_rfl
@[simp] theorem size186 : sizeT Try.prog 186 = some 4 := by kernel_rfl
@[simp] theorem bytes186 : bytesT Try.prog 186 = some 40 := by kernel_rfl
@[simp] theorem agg186 : aggT Try.prog 186 = some true := by kernel_rfl
@[simp] theorem kind186 : kindT Try.prog 186 = some .struct := by kernel_rfl
@[simp] theorem field186_0 : fieldT Try.prog 186 0 = some (0, 1, 17) := by kernel_rfl
@[simp] theorem field186_1 : fieldT Try.prog 186 1 = some (1, 1, 17) := by kernel_rfl
@[simp] theorem field186_2 : fieldT Try.prog 186 2 = some (2, 1, 17) := by kernel_rfl
@[simp] theorem field186_3 : fieldT Try.prog 186 3 = some (3, 1, 9) := by kernel_rfl
@[simp] theorem places186 : placesT Try.prog 186 = some [(0, 1), (1, 1), (2, 1), (3, 1)] := by kernel_rfl
@[simp] theorem zero186 : zeroT Try.prog 186 = some (.agg #[.pointer none, .pointer none, .pointer none, .string "".toByteArray]) := by kernel_rfl
@[simp] theorem size187 : sizeT Try.prog 187 = some 0 := by kernel_rfl
@[simp] theorem bytes187 : bytesT Try.prog 187 = some 0 := by kernel_rfl
@[simp] theorem agg187 : aggT Try.prog 187 = some true := by kernel_rfl
@[simp] theorem kind187 : kindT Try.prog 187 = some .array := by kernel_rfl
@[simp] theorem placesN187 : placesT Try.prog 187 = none := by kernel_rfl
@[simp] theorem arr187 : arrT Try.prog 187 = some (0, 16) := by kernel_rfl
@[simp] theorem zero187 : zeroT Try.prog 187 = some (.agg #[]) := by kernel_rfl
@[simp] theorem size188 : sizeT Try.prog 188 = some 0 := by kernel_rfl
@[simp] theorem bytes188 : bytesT Try.prog 188 = some 0 := by kernel_rfl
@[simp] theorem agg188 : aggT Try.prog 188 = some true := by kernel_rfl
@[simp] theorem kind188 : kindT Try.prog 188 = some .struct := by kernel_rfl
@[simp] theorem field188_0 : fieldT Try.prog 188 0 = some (0, 0, 187) := by kernel_rfl
@[simp] theorem places188 : placesT Try.prog 188 = some [(0, 0)] := by kernel_rfl
@[simp] theorem zero188 : zeroT Try.prog 188 = some (.agg #[]) := by kernel_rfl
@[simp] theorem size189 : sizeT Try.prog 189 = some 0 := by kernel_rfl
@[simp] theorem bytes189 : bytesT Try.prog 189 = some 0 := by kernel_rfl
@[simp] theorem agg189 : aggT Try.prog 189 = some true := by kernel_rfl
@[simp] theorem kind189 : kindT Try.prog 189 = some .struct := by kernel_rfl
@[simp] theorem field189_0 : fieldT Try.prog 189 0 = some (0, 0, 187) := by kernel_rfl
@[simp] theorem places189 : placesT Try.prog 189 = some [(0, 0)] := by kernel_rfl
@[simp] theorem zero189 : zeroT Try.prog 189 = some (.agg #[]) := by kernel_rfl
@[simp] theorem size190 : sizeT Try.prog 190 = some 1 := by kernel_rfl
@[simp] theorem bytes190 : bytesT Try.prog 190 = some 4 := by kernel_rfl
@[simp] theorem agg190 : aggT Try.prog 190 = some false := by kernel_rfl
@[simp] theorem kind190 : kindT Try.prog 190 = some (.int .u32) := by kernel_rfl
@[simp] theorem zero190 : zeroT Try.prog 190 = some (.int .u32 0) := by kernel_rfl
@[simp] theorem size191 : sizeT Try.prog 191 = some 1 := by kernel_rfl
@[simp] theorem bytes191 : bytesT Try.prog 191 = some 1 := by kernel_rfl
@[simp] theorem agg191 : aggT Try.prog 191 = some false := by kernel_rfl
@[simp] theorem kind191 : kindT Try.prog 191 = some (.int .u8) := by kernel_rfl
@[simp] theorem zero191 : zeroT Try.prog 191 = some (.int .u8 0) := by kernel_rfl
@[simp] theorem size192 : sizeT Try.prog 192 = some 1 := by kernel_rfl
@[simp] theorem bytes192 : bytesT Try.prog 192 = some 1 := by kernel_rfl
@[simp] theorem agg192 : aggT Try.prog 192 = some false := by kernel_rfl
@[simp] theorem kind192 : kindT Try.prog 192 = some (.int .u8) := by kernel_rfl
@[simp] theorem zero192 : zeroT Try.prog 192 = some (.int .u8 0) := by kernel_rfl
@[simp] theorem size193 : sizeT Try.prog 193 = some 1 := by kernel_rfl
@[simp] theorem bytes193 : bytesT Try.prog 193 = some 8 := by kernel_rfl
@[simp] theorem agg193 : aggT Try.prog 193 = some false := by kernel_rfl
@[simp] theorem kind193 : kindT Try.prog 193 = some .func := by kernel_rfl
@[simp] theorem zero193 : zeroT Try.prog 193 = some (.nilFunc) := by kernel_rfl
@[simp] theorem size194 : sizeT Try.prog 194 = some 1 := by kernel_rfl
@[simp] theorem bytes194 : bytesT Try.prog 194 = some 8 := by kernel_rfl
@[simp] theorem agg194 : aggT Try.prog 194 = some false := by kernel_rfl
@[simp] theorem kind194 : kindT Try.prog 194 = some .ptr := by kernel_rfl
@[simp] theorem zero194 : zeroT Try.prog 194 = some (.pointer none) := by kernel_rfl
@[simp] theorem size195 : sizeT Try.prog 195 = some 1 := by kernel_rfl
@[simp] theorem bytes195 : bytesT Try.prog 195 = some 4 := by kernel_rfl
@[simp] theorem agg195 : aggT Try.prog 195 = some false := by kernel_rfl
@[simp] theorem kind195 : kindT Try.prog 195 = some (.int .i32) := by kernel_rfl
@[simp] theorem zero195 : zeroT Try.prog 195 = some (.int .i32 0) := by kernel_rfl
@[simp] theorem size196 : sizeT Try.prog 196 = some 1 := by kernel_rfl
@[simp] theorem bytes196 : bytesT Try.prog 196 = some 4 := by kernel_rfl
@[simp] theorem agg196 : aggT Try.prog 196 = some false := by kernel_rfl
@[simp] theorem kind196 : kindT Try.prog 196 = some (.int .i32) := by kernel_rfl
@[simp] theorem zero196 : zeroT Try.prog 196 = some (.int .i32 0) := by kernel_rfl
@[simp] theorem size197 : sizeT Try.prog 197 = some 11 := by kernel_rfl
@[simp] theorem bytes197 : bytesT Try.prog 197 = some 48 := by kernel_rfl
@[simp] theorem agg197 : aggT Try.prog 197 = some true := by kernel_rfl
@[simp] theorem kind197 : kindT Try.prog 197 = some .struct := by kernel_rfl
@[simp] theorem field197_0 : fieldT Try.prog 197 0 = some (0, 1, 12) := by kernel_rfl
@[simp] theorem field197_1 : fieldT Try.prog 197 1 = some (1, 1, 12) := by kernel_rfl
@[simp] theorem field197_2 : fieldT Try.prog 197 2 = some (2, 1, 190) := by kernel_rfl
@[simp] theorem field197_3 : fieldT Try.prog 197 3 = some (3, 1, 191) := by kernel_rfl
@[simp] theorem field197_4 : fieldT Try.prog 197 4 = some (4, 1, 5) := by kernel_rfl
@[simp] theorem field197_5 : fieldT Try.prog 197 5 = some (5, 1, 5) := by kernel_rfl
@[simp] theorem field197_6 : fieldT Try.prog 197 6 = some (6, 1, 192) := by kernel_rfl
@[simp] theorem field197_7 : fieldT Try.prog 197 7 = some (7, 1, 193) := by kernel_rfl
@[simp] theorem field197_8 : fieldT Try.prog 197 8 = some (8, 1, 194) := by kernel_rfl
@[simp] theorem field197_9 : fieldT Try.prog 197 9 = some (9, 1, 195) := by kernel_rfl
@[simp] theorem field197_10 : fieldT Try.prog 197 10 = some (10, 1, 196) := by kernel_rfl
@[simp] theorem places197 : placesT Try.prog 197 = some [(0, 1), (1, 1), (2, 1), (3, 1), (4, 1), (5, 1), (6, 1), (7, 1), (8, 1), (9, 1), (10, 1)] := by kernel_rfl
@[simp] theorem zero197 : zeroT Try.prog 197 = some (.agg #[.int .u64 0, .int .u64 0, .int .u32 0, .int .u8 0, .int .u8 0, .int .u8 0, .int .u8 0, .nilFunc, .pointer none, .int .i32 0, .int .i32 0]) := by kernel_rfl
@[simp] theorem size198 : sizeT Try.prog 198 = some 11 := by kernel_rfl
@[simp] theorem bytes198 : bytesT Try.prog 198 = some 48 := by kernel_rfl
@[simp] theorem agg198 : aggT Try.prog 198 = some true := by kernel_rfl
@[simp] theorem kind198 : kindT Try.prog 198 = some .struct := by kernel_rfl
@[simp] theorem field198_0 : fieldT Try.prog 198 0 = some (0, 1, 12) := by kernel_rfl
@[simp] theorem field198_1 : fieldT Try.prog 198 1 = some (1, 1, 12) := by kernel_rfl
@[simp] theorem field198_2 : fieldT Try.prog 198 2 = some (2, 1, 190) := by kernel_rfl
@[simp] theorem field198_3 : fieldT Try.prog 198 3 = some (3, 1, 191) := by kernel_rfl
@[simp] theorem field198_4 : fieldT Try.prog 198 4 = some (4, 1, 5) := by kernel_rfl
@[simp] theorem field198_5 : fieldT Try.prog 198 5 = some (5, 1, 5) := by kernel_rfl
@[simp] theorem field198_6 : fieldT Try.prog 198 6 = some (6, 1, 192) := by kernel_rfl
@[simp] theorem field198_7 : fieldT Try.prog 198 7 = some (7, 1, 193) := by kernel_rfl
@[simp] theorem field198_8 : fieldT Try.prog 198 8 = some (8, 1, 194) := by kernel_rfl
@[simp] theorem field198_9 : fieldT Try.prog 198 9 = some (9, 1, 195) := by kernel_rfl
@[simp] theorem field198_10 : fieldT Try.prog 198 10 = some (10, 1, 196) := by kernel_rfl
@[simp] theorem places198 : placesT Try.prog 198 = some [(0, 1), (1, 1), (2, 1), (3, 1), (4, 1), (5, 1), (6, 1), (7, 1), (8, 1), (9, 1), (10, 1)] := by kernel_rfl
@[simp] theorem zero198 : zeroT Try.prog 198 = some (.agg #[.int .u64 0, .int .u64 0, .int .u32 0, .int .u8 0, .int .u8 0, .int .u8 0, .int .u8 0, .nilFunc, .pointer none, .int .i32 0, .int .i32 0]) := by kernel_rfl
@[simp] theorem size199 : sizeT Try.prog 199 = some 1 := by kernel_rfl
@[simp] theorem bytes199 : bytesT Try.prog 199 = some 8 := by kernel_rfl
@[simp] theorem agg199 : aggT Try.prog 199 = some false := by kernel_rfl
@[simp] theorem kind199 : kindT Try.prog 199 = some .other := by kernel_rfl
@[simp] theorem zero199 : zeroT Try.prog 199 = some (.pointer none) := by kernel_rfl
end Go.Vm
