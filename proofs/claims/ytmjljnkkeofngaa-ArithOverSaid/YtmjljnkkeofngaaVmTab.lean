/- What is proved: the facts of the program's types, as the machine asks for them. -/
import Derived.Test.YtmjljnkkeofngaaProg
import Derived.Test.YtmjljnkkeofngaaVmJ
namespace Go.Vm
open Go.Proofs
set_option maxRecDepth 100000
@[simp] theorem size0 : sizeT Try.prog 0 = some 1 := by kernel_rfl
@[simp] theorem bytes0 : bytesT Try.prog 0 = some 0 := by kernel_rfl
@[simp] theorem agg0 : aggT Try.prog 0 = some false := by kernel_rfl
@[simp] theorem kind0 : kindT Try.prog 0 = some .other := by kernel_rfl
@[simp] theorem size1 : sizeT Try.prog 1 = some 1 := by kernel_rfl
@[simp] theorem bytes1 : bytesT Try.prog 1 = some 8 := by kernel_rfl
@[simp] theorem agg1 : aggT Try.prog 1 = some false := by kernel_rfl
@[simp] theorem kind1 : kindT Try.prog 1 = some .func := by kernel_rfl
@[simp] theorem zero1 : zeroT Try.prog 1 = some (.nilFunc) := by kernel_rfl
@[simp] theorem size2 : sizeT Try.prog 2 = some 1 := by kernel_rfl
@[simp] theorem bytes2 : bytesT Try.prog 2 = some 8 := by kernel_rfl
@[simp] theorem agg2 : aggT Try.prog 2 = some false := by kernel_rfl
@[simp] theorem kind2 : kindT Try.prog 2 = some (.int .i64) := by kernel_rfl
@[simp] theorem zero2 : zeroT Try.prog 2 = some (.int .i64 0) := by kernel_rfl
@[simp] theorem size3 : sizeT Try.prog 3 = some 1 := by kernel_rfl
@[simp] theorem bytes3 : bytesT Try.prog 3 = some 8 := by kernel_rfl
@[simp] theorem agg3 : aggT Try.prog 3 = some false := by kernel_rfl
@[simp] theorem kind3 : kindT Try.prog 3 = some (.int .i64) := by kernel_rfl
@[simp] theorem zero3 : zeroT Try.prog 3 = some (.int .i64 0) := by kernel_rfl
@[simp] theorem size4 : sizeT Try.prog 4 = some 1 := by kernel_rfl
@[simp] theorem bytes4 : bytesT Try.prog 4 = some 1 := by kernel_rfl
@[simp] theorem agg4 : aggT Try.prog 4 = some false := by kernel_rfl
@[simp] theorem kind4 : kindT Try.prog 4 = some .bool := by kernel_rfl
@[simp] theorem zero4 : zeroT Try.prog 4 = some (.bool false) := by kernel_rfl
@[simp] theorem size5 : sizeT Try.prog 5 = some 1 := by kernel_rfl
@[simp] theorem bytes5 : bytesT Try.prog 5 = some 1 := by kernel_rfl
@[simp] theorem agg5 : aggT Try.prog 5 = some false := by kernel_rfl
@[simp] theorem kind5 : kindT Try.prog 5 = some (.int .u8) := by kernel_rfl
@[simp] theorem zero5 : zeroT Try.prog 5 = some (.int .u8 0) := by kernel_rfl
@[simp] theorem size6 : sizeT Try.prog 6 = some 1 := by kernel_rfl
@[simp] theorem bytes6 : bytesT Try.prog 6 = some 1 := by kernel_rfl
@[simp] theorem agg6 : aggT Try.prog 6 = some false := by kernel_rfl
@[simp] theorem kind6 : kindT Try.prog 6 = some (.int .u8) := by kernel_rfl
@[simp] theorem zero6 : zeroT Try.prog 6 = some (.int .u8 0) := by kernel_rfl
@[simp] theorem size7 : sizeT Try.prog 7 = some 4 := by kernel_rfl
@[simp] theorem bytes7 : bytesT Try.prog 7 = some 24 := by kernel_rfl
@[simp] theorem agg7 : aggT Try.prog 7 = some true := by kernel_rfl
@[simp] theorem kind7 : kindT Try.prog 7 = some .struct := by kernel_rfl
@[simp] theorem field7_0 : fieldT Try.prog 7 0 = some (0, 1, 2) := by kernel_rfl
@[simp] theorem field7_1 : fieldT Try.prog 7 1 = some (1, 1, 3) := by kernel_rfl
@[simp] theorem field7_2 : fieldT Try.prog 7 2 = some (2, 1, 4) := by kernel_rfl
@[simp] theorem field7_3 : fieldT Try.prog 7 3 = some (3, 1, 6) := by kernel_rfl
@[simp] theorem places7 : placesT Try.prog 7 = some [(0, 1), (1, 1), (2, 1), (3, 1)] := by kernel_rfl
@[simp] theorem zero7 : zeroT Try.prog 7 = some (.agg #[.int .i64 0, .int .i64 0, .bool false, .int .u8 0]) := by kernel_rfl
@[simp] theorem size8 : sizeT Try.prog 8 = some 4 := by kernel_rfl
@[simp] theorem bytes8 : bytesT Try.prog 8 = some 24 := by kernel_rfl
@[simp] theorem agg8 : aggT Try.prog 8 = some true := by kernel_rfl
@[simp] theorem kind8 : kindT Try.prog 8 = some .struct := by kernel_rfl
@[simp] theorem field8_0 : fieldT Try.prog 8 0 = some (0, 1, 2) := by kernel_rfl
@[simp] theorem field8_1 : fieldT Try.prog 8 1 = some (1, 1, 3) := by kernel_rfl
@[simp] theorem field8_2 : fieldT Try.prog 8 2 = some (2, 1, 4) := by kernel_rfl
@[simp] theorem field8_3 : fieldT Try.prog 8 3 = some (3, 1, 6) := by kernel_rfl
@[simp] theorem places8 : placesT Try.prog 8 = some [(0, 1), (1, 1), (2, 1), (3, 1)] := by kernel_rfl
@[simp] theorem zero8 : zeroT Try.prog 8 = some (.agg #[.int .i64 0, .int .i64 0, .bool false, .int .u8 0]) := by kernel_rfl
@[simp] theorem size9 : sizeT Try.prog 9 = some 1 := by kernel_rfl
@[simp] theorem bytes9 : bytesT Try.prog 9 = some 16 := by kernel_rfl
@[simp] theorem agg9 : aggT Try.prog 9 = some false := by kernel_rfl
@[simp] theorem kind9 : kindT Try.prog 9 = some .string := by kernel_rfl
@[simp] theorem zero9 : zeroT Try.prog 9 = some (.string "".toByteArray) := by kernel_rfl
@[simp] theorem size10 : sizeT Try.prog 10 = some 1 := by kernel_rfl
@[simp] theorem bytes10 : bytesT Try.prog 10 = some 16 := by kernel_rfl
@[simp] theorem agg10 : aggT Try.prog 10 = some false := by kernel_rfl
@[simp] theorem kind10 : kindT Try.prog 10 = some .string := by kernel_rfl
@[simp] theorem zero10 : zeroT Try.prog 10 = some (.string "".toByteArray) := by kernel_rfl
@[simp] theorem size11 : sizeT Try.prog 11 = some 1 := by kernel_rfl
@[simp] theorem bytes11 : bytesT Try.prog 11 = some 16 := by kernel_rfl
@[simp] theorem agg11 : aggT Try.prog 11 = some false := by kernel_rfl
@[simp] theorem kind11 : kindT Try.prog 11 = some .string := by kernel_rfl
@[simp] theorem zero11 : zeroT Try.prog 11 = some (.string "".toByteArray) := by kernel_rfl
@[simp] theorem size12 : sizeT Try.prog 12 = some 1 := by kernel_rfl
@[simp] theorem bytes12 : bytesT Try.prog 12 = some 8 := by kernel_rfl
@[simp] theorem agg12 : aggT Try.prog 12 = some false := by kernel_rfl
@[simp] theorem kind12 : kindT Try.prog 12 = some (.int .u64) := by kernel_rfl
@[simp] theorem zero12 : zeroT Try.prog 12 = some (.int .u64 0) := by kernel_rfl
@[simp] theorem size13 : sizeT Try.prog 13 = some 2 := by kernel_rfl
@[simp] theorem bytes13 : bytesT Try.prog 13 = some 24 := by kernel_rfl
@[simp] theorem agg13 : aggT Try.prog 13 = some true := by kernel_rfl
@[simp] theorem kind13 : kindT Try.prog 13 = some .struct := by kernel_rfl
@[simp] theorem field13_0 : fieldT Try.prog 13 0 = some (0, 1, 9) := by kernel_rfl
@[simp] theorem field13_1 : fieldT Try.prog 13 1 = some (1, 1, 12) := by kernel_rfl
@[simp] theorem places13 : placesT Try.prog 13 = some [(0, 1), (1, 1)] := by kernel_rfl
@[simp] theorem zero13 : zeroT Try.prog 13 = some (.agg #[.string "".toByteArray, .int .u64 0]) := by kernel_rfl
@[simp] theorem size14 : sizeT Try.prog 14 = some 2 := by kernel_rfl
@[simp] theorem bytes14 : bytesT Try.prog 14 = some 24 := by kernel_rfl
@[simp] theorem agg14 : aggT Try.prog 14 = some true := by kernel_rfl
@[simp] theorem kind14 : kindT Try.prog 14 = some .struct := by kernel_rfl
@[simp] theorem field14_0 : fieldT Try.prog 14 0 = some (0, 1, 9) := by kernel_rfl
@[simp] theorem field14_1 : fieldT Try.prog 14 1 = some (1, 1, 12) := by kernel_rfl
@[simp] theorem places14 : placesT Try.prog 14 = some [(0, 1), (1, 1)] := by kernel_rfl
@[simp] theorem zero14 : zeroT Try.prog 14 = some (.agg #[.string "".toByteArray, .int .u64 0]) := by kernel_rfl
@[simp] theorem size15 : sizeT Try.prog 15 = some 1 := by kernel_rfl
@[simp] theorem bytes15 : bytesT Try.prog 15 = some 8 := by kernel_rfl
@[simp] theorem agg15 : aggT Try.prog 15 = some false := by kernel_rfl
@[simp] theorem kind15 : kindT Try.prog 15 = some .ptr := by kernel_rfl
@[simp] theorem zero15 : zeroT Try.prog 15 = some (.pointer none) := by kernel_rfl
@[simp] theorem size16 : sizeT Try.prog 16 = some 1 := by kernel_rfl
@[simp] theorem bytes16 : bytesT Try.prog 16 = some 8 := by kernel_rfl
@[simp] theorem agg16 : aggT Try.prog 16 = some false := by kernel_rfl
@[simp] theorem kind16 : kindT Try.prog 16 = some .ptr := by kernel_rfl
@[simp] theorem zero16 : zeroT Try.prog 16 = some (.pointer none) := by kernel_rfl
@[simp] theorem size17 : sizeT Try.prog 17 = some 1 := by kernel_rfl
@[simp] theorem bytes17 : bytesT Try.prog 17 = some 8 := by kernel_rfl
@[simp] theorem agg17 : aggT Try.prog 17 = some false := by kernel_rfl
@[simp] theorem kind17 : kindT Try.prog 17 = some .ptr := by kernel_rfl
@[simp] theorem zero17 : zeroT Try.prog 17 = some (.pointer none) := by kernel_rfl
@[simp] theorem size18 : sizeT Try.prog 18 = some 1 := by kernel_rfl
@[simp] theorem bytes18 : bytesT Try.prog 18 = some 8 := by kernel_rfl
@[simp] theorem agg18 : aggT Try.prog 18 = some true := by kernel_rfl
@[simp] theorem kind18 : kindT Try.prog 18 = some .struct := by kernel_rfl
@[simp] theorem field18_0 : fieldT Try.prog 18 0 = some (0, 1, 17) := by kernel_rfl
@[simp] theorem places18 : placesT Try.prog 18 = some [(0, 1)] := by kernel_rfl
@[simp] theorem zero18 : zeroT Try.prog 18 = some (.agg #[.pointer none]) := by kernel_rfl
@[simp] theorem size19 : sizeT Try.prog 19 = some 1 := by kernel_rfl
@[simp] theorem bytes19 : bytesT Try.prog 19 = some 8 := by kernel_rfl
@[simp] theorem agg19 : aggT Try.prog 19 = some true := by kernel_rfl
@[simp] theorem kind19 : kindT Try.prog 19 = some .struct := by kernel_rfl
@[simp] theorem field19_0 : fieldT Try.prog 19 0 = some (0, 1, 17) := by kernel_rfl
@[simp] theorem places19 : placesT Try.prog 19 = some [(0, 1)] := by kernel_rfl
@[simp] theorem zero19 : zeroT Try.prog 19 = some (.agg #[.pointer none]) := by kernel_rfl
@[simp] theorem size20 : sizeT Try.prog 20 = some 1 := by kernel_rfl
@[simp] theorem bytes20 : bytesT Try.prog 20 = some 16 := by kernel_rfl
@[simp] theorem agg20 : aggT Try.prog 20 = some false := by kernel_rfl
@[simp] theorem kind20 : kindT Try.prog 20 = some .iface := by kernel_rfl
@[simp] theorem zero20 : zeroT Try.prog 20 = some (.nilIface) := by kernel_rfl
@[simp] theorem size21 : sizeT Try.prog 21 = some 1 := by kernel_rfl
@[simp] theorem bytes21 : bytesT Try.prog 21 = some 4 := by kernel_rfl
@[simp] theorem agg21 : aggT Try.prog 21 = some false := by kernel_rfl
@[simp] theorem kind21 : kindT Try.prog 21 = some (.int .i32) := by kernel_rfl
@[simp] theorem zero21 : zeroT Try.prog 21 = some (.int .i32 0) := by kernel_rfl
@[simp] theorem size22 : sizeT Try.prog 22 = some 1 := by kernel_rfl
@[simp] theorem bytes22 : bytesT Try.prog 22 = some 8 := by kernel_rfl
@[simp] theorem agg22 : aggT Try.prog 22 = some false := by kernel_rfl
@[simp] theorem kind22 : kindT Try.prog 22 = some (.int .i64) := by kernel_rfl
@[simp] theorem zero22 : zeroT Try.prog 22 = some (.int .i64 0) := by kernel_rfl
@[simp] theorem size23 : sizeT Try.prog 23 = some 1 := by kernel_rfl
@[simp] theorem bytes23 : bytesT Try.prog 23 = some 0 := by kernel_rfl
@[simp] theorem agg23 : aggT Try.prog 23 = some false := by kernel_rfl
@[simp] theorem kind23 : kindT Try.prog 23 = some .other := by kernel_rfl
@[simp] theorem size24 : sizeT Try.prog 24 = some 1 := by kernel_rfl
@[simp] theorem bytes24 : bytesT Try.prog 24 = some 8 := by kernel_rfl
@[simp] theorem agg24 : aggT Try.prog 24 = some false := by kernel_rfl
@[simp] theorem kind24 : kindT Try.prog 24 = some .func := by kernel_rfl
@[simp] theorem zero24 : zeroT Try.prog 24 = some (.nilFunc) := by kernel_rfl
@[simp] theorem size25 : sizeT Try.prog 25 = some 1 := by kernel_rfl
@[simp] theorem bytes25 : bytesT Try.prog 25 = some 8 := by kernel_rfl
@[simp] theorem agg25 : aggT Try.prog 25 = some false := by kernel_rfl
@[simp] theorem kind25 : kindT Try.prog 25 = some .func := by kernel_rfl
@[simp] theorem zero25 : zeroT Try.prog 25 = some (.nilFunc) := by kernel_rfl
@[simp] theorem size26 : sizeT Try.prog 26 = some 1 := by kernel_rfl
@[simp] theorem bytes26 : bytesT Try.prog 26 = some 8 := by kernel_rfl
@[simp] theorem agg26 : aggT Try.prog 26 = some false := by kernel_rfl
@[simp] theorem kind26 : kindT Try.prog 26 = some .func := by kernel_rfl
@[simp] theorem zero26 : zeroT Try.prog 26 = some (.nilFunc) := by kernel_rfl
@[simp] theorem size27 : sizeT Try.prog 27 = some 1 := by kernel_rfl
@[simp] theorem bytes27 : bytesT Try.prog 27 = some 8 := by kernel_rfl
@[simp] theorem agg27 : aggT Try.prog 27 = some false := by kernel_rfl
@[simp] theorem kind27 : kindT Try.prog 27 = some .func := by kernel_rfl
@[simp] theorem zero27 : zeroT Try.prog 27 = some (.nilFunc) := by kernel_rfl
@[simp] theorem size28 : sizeT Try.prog 28 = some 1 := by kernel_rfl
@[simp] theorem bytes28 : bytesT Try.prog 28 = some 8 := by kernel_rfl
@[simp] theorem agg28 : aggT Try.prog 28 = some false := by kernel_rfl
@[simp] theorem kind28 : kindT Try.prog 28 = some .func := by kernel_rfl
@[simp] theorem zero28 : zeroT Try.prog 28 = some (.nilFunc) := by kernel_rfl
@[simp] theorem size29 : sizeT Try.prog 29 = some 1 := by kernel_rfl
@[simp] theorem bytes29 : bytesT Try.prog 29 = some 8 := by kernel_rfl
@[simp] theorem agg29 : aggT Try.prog 29 = some false := by kernel_rfl
@[simp] theorem kind29 : kindT Try.prog 29 = some .func := by kernel_rfl
@[simp] theorem zero29 : zeroT Try.prog 29 = some (.nilFunc) := by kernel_rfl
@[simp] theorem size30 : sizeT Try.prog 30 = some 1 := by kernel_rfl
@[simp] theorem bytes30 : bytesT Try.prog 30 = some 8 := by kernel_rfl
@[simp] theorem agg30 : aggT Try.prog 30 = some false := by kernel_rfl
@[simp] theorem kind30 : kindT Try.prog 30 = some (.int .u64) := by kernel_rfl
@[simp] theorem zero30 : zeroT Try.prog 30 = some (.int .u64 0) := by kernel_rfl
@[simp] theorem size31 : sizeT Try.prog 31 = some 1 := by kernel_rfl
@[simp] theorem bytes31 : bytesT Try.prog 31 = some 0 := by kernel_rfl
@[simp] theorem agg31 : aggT Try.prog 31 = some false := by kernel_rfl
@[simp] theorem kind31 : kindT Try.prog 31 = some .other := by kernel_rfl
@[simp] theorem size32 : sizeT Try.prog 32 = some 1 := by kernel_rfl
@[simp] theorem bytes32 : bytesT Try.prog 32 = some 8 := by kernel_rfl
@[simp] theorem agg32 : aggT Try.prog 32 = some false := by kernel_rfl
@[simp] theorem kind32 : kindT Try.prog 32 = some .func := by kernel_rfl
@[simp] theorem zero32 : zeroT Try.prog 32 = some (.nilFunc) := by kernel_rfl
@[simp] theorem size33 : sizeT Try.prog 33 = some 1 := by kernel_rfl
@[simp] theorem bytes33 : bytesT Try.prog 33 = some 8 := by kernel_rfl
@[simp] theorem agg33 : aggT Try.prog 33 = some false := by kernel_rfl
@[simp] theorem kind33 : kindT Try.prog 33 = some .func := by kernel_rfl
@[simp] theorem zero33 : zeroT Try.prog 33 = some (.nilFunc) := by kernel_rfl
@[simp] theorem size34 : sizeT Try.prog 34 = some 1 := by kernel_rfl
@[simp] theorem bytes34 : bytesT Try.prog 34 = some 8 := by kernel_rfl
@[simp] theorem agg34 : aggT Try.prog 34 = some false := by kernel_rfl
@[simp] theorem kind34 : kindT Try.prog 34 = some .func := by kernel_rfl
@[simp] theorem zero34 : zeroT Try.prog 34 = some (.nilFunc) := by kernel_rfl
@[simp] theorem size35 : sizeT Try.prog 35 = some 1 := by kernel_rfl
@[simp] theorem bytes35 : bytesT Try.prog 35 = some 8 := by kernel_rfl
@[simp] theorem agg35 : aggT Try.prog 35 = some false := by kernel_rfl
@[simp] theorem kind35 : kindT Try.prog 35 = some .func := by kernel_rfl
@[simp] theorem zero35 : zeroT Try.prog 35 = some (.nilFunc) := by kernel_rfl
@[simp] theorem size36 : sizeT Try.prog 36 = some 1 := by kernel_rfl
@[simp] theorem bytes36 : bytesT Try.prog 36 = some 8 := by kernel_rfl
@[simp] theorem agg36 : aggT Try.prog 36 = some false := by kernel_rfl
@[simp] theorem kind36 : kindT Try.prog 36 = some (.int .u64) := by kernel_rfl
@[simp] theorem zero36 : zeroT Try.prog 36 = some (.int .u64 0) := by kernel_rfl
@[simp] theorem size37 : sizeT Try.prog 37 = some 1 := by kernel_rfl
@[simp] theorem bytes37 : bytesT Try.prog 37 = some 8 := by kernel_rfl
@[simp] theorem agg37 : aggT Try.prog 37 = some false := by kernel_rfl
@[simp] theorem kind37 : kindT Try.prog 37 = some .func := by kernel_rfl
@[simp] theorem zero37 : zeroT Try.prog 37 = some (.nilFunc) := by kernel_rfl
@[simp] theorem size38 : sizeT Try.prog 38 = some 4 := by kernel_rfl
@[simp] theorem bytes38 : bytesT Try.prog 38 = some 40 := by kernel_rfl
@[simp] theorem agg38 : aggT Try.prog 38 = some true := by kernel_rfl
@[simp] theorem kind38 : kindT Try.prog 38 = some .struct := by kernel_rfl
@[simp] theorem field38_0 : fieldT Try.prog 38 0 = some (0, 1, 17) := by kernel_rfl
@[simp] theorem field38_1 : fieldT Try.prog 38 1 = some (1, 1, 17) := by kernel_rfl
@[simp] theorem field38_2 : fieldT Try.prog 38 2 = some (2, 1, 17) := by kernel_rfl
@[simp] theorem field38_3 : fieldT Try.prog 38 3 = some (3, 1, 9) := by kernel_rfl
@[simp] theorem places38 : placesT Try.prog 38 = some [(0, 1), (1, 1), (2, 1), (3, 1)] := by kernel_rfl
@[simp] theorem zero38 : zeroT Try.prog 38 = some (.agg #[.pointer none, .pointer none, .pointer none, .string "".toByteArray]) := by kernel_rfl
@[simp] theorem size39 : sizeT Try.prog 39 = some 4 := by kernel_rfl
@[simp] theorem bytes39 : bytesT Try.prog 39 = some 40 := by kernel_rfl
@[simp] theorem agg39 : aggT Try.prog 39 = some true := by kernel_rfl
@[simp] theorem kind39 : kindT Try.prog 39 = some .struct := by kernel_rfl
@[simp] theorem field39_0 : fieldT Try.prog 39 0 = some (0, 1, 17) := by kernel_rfl
@[simp] theorem field39_1 : fieldT Try.prog 39 1 = some (1, 1, 17) := by kernel_rfl
@[simp] theorem field39_2 : fieldT Try.prog 39 2 = some (2, 1, 17) := by kernel_rfl
@[simp] theorem field39_3 : fieldT Try.prog 39 3 = some (3, 1, 9) := by kernel_rfl
@[simp] theorem places39 : placesT Try.prog 39 = some [(0, 1), (1, 1), (2, 1), (3, 1)] := by kernel_rfl
@[simp] theorem zero39 : zeroT Try.prog 39 = some (.agg #[.pointer none, .pointer none, .pointer none, .string "".toByteArray]) := by kernel_rfl
@[simp] theorem size40 : sizeT Try.prog 40 = some 0 := by kernel_rfl
@[simp] theorem bytes40 : bytesT Try.prog 40 = some 0 := by kernel_rfl
@[simp] theorem agg40 : aggT Try.prog 40 = some true := by kernel_rfl
@[simp] theorem kind40 : kindT Try.prog 40 = some .array := by kernel_rfl
@[simp] theorem placesN40 : placesT Try.prog 40 = none := by kernel_rfl
@[simp] theorem arr40 : arrT Try.prog 40 = some (0, 16) := by kernel_rfl
@[simp] theorem zero40 : zeroT Try.prog 40 = some (.agg #[]) := by kernel_rfl
@[simp] theorem size41 : sizeT Try.prog 41 = some 0 := by kernel_rfl
@[simp] theorem bytes41 : bytesT Try.prog 41 = some 0 := by kernel_rfl
@[simp] theorem agg41 : aggT Try.prog 41 = some true := by kernel_rfl
@[simp] theorem kind41 : kindT Try.prog 41 = some .struct := by kernel_rfl
@[simp] theorem field41_0 : fieldT Try.prog 41 0 = some (0, 0, 40) := by kernel_rfl
@[simp] theorem places41 : placesT Try.prog 41 = some [(0, 0)] := by kernel_rfl
@[simp] theorem zero41 : zeroT Try.prog 41 = some (.agg #[]) := by kernel_rfl
@[simp] theorem size42 : sizeT Try.prog 42 = some 0 := by kernel_rfl
@[simp] theorem bytes42 : bytesT Try.prog 42 = some 0 := by kernel_rfl
@[simp] theorem agg42 : aggT Try.prog 42 = some true := by kernel_rfl
@[simp] theorem kind42 : kindT Try.prog 42 = some .struct := by kernel_rfl
@[simp] theorem field42_0 : fieldT Try.prog 42 0 = some (0, 0, 40) := by kernel_rfl
@[simp] theorem places42 : placesT Try.prog 42 = some [(0, 0)] := by kernel_rfl
@[simp] theorem zero42 : zeroT Try.prog 42 = some (.agg #[]) := by kernel_rfl
@[simp] theorem size43 : sizeT Try.prog 43 = some 1 := by kernel_rfl
@[simp] theorem bytes43 : bytesT Try.prog 43 = some 8 := by kernel_rfl
@[simp] theorem agg43 : aggT Try.prog 43 = some false := by kernel_rfl
@[simp] theorem kind43 : kindT Try.prog 43 = some .func := by kernel_rfl
@[simp] theorem zero43 : zeroT Try.prog 43 = some (.nilFunc) := by kernel_rfl
@[simp] theorem size44 : sizeT Try.prog 44 = some 1 := by kernel_rfl
@[simp] theorem bytes44 : bytesT Try.prog 44 = some 4 := by kernel_rfl
@[simp] theorem agg44 : aggT Try.prog 44 = some false := by kernel_rfl
@[simp] theorem kind44 : kindT Try.prog 44 = some (.int .u32) := by kernel_rfl
@[simp] theorem zero44 : zeroT Try.prog 44 = some (.int .u32 0) := by kernel_rfl
@[simp] theorem size45 : sizeT Try.prog 45 = some 1 := by kernel_rfl
@[simp] theorem bytes45 : bytesT Try.prog 45 = some 1 := by kernel_rfl
@[simp] theorem agg45 : aggT Try.prog 45 = some false := by kernel_rfl
@[simp] theorem kind45 : kindT Try.prog 45 = some (.int .u8) := by kernel_rfl
@[simp] theorem zero45 : zeroT Try.prog 45 = some (.int .u8 0) := by kernel_rfl
@[simp] theorem size46 : sizeT Try.prog 46 = some 1 := by kernel_rfl
@[simp] theorem bytes46 : bytesT Try.prog 46 = some 1 := by kernel_rfl
@[simp] theorem agg46 : aggT Try.prog 46 = some false := by kernel_rfl
@[simp] theorem kind46 : kindT Try.prog 46 = some (.int .u8) := by kernel_rfl
@[simp] theorem zero46 : zeroT Try.prog 46 = some (.int .u8 0) := by kernel_rfl
@[simp] theorem size47 : sizeT Try.prog 47 = some 1 := by kernel_rfl
@[simp] theorem bytes47 : bytesT Try.prog 47 = some 8 := by kernel_rfl
@[simp] theorem agg47 : aggT Try.prog 47 = some false := by kernel_rfl
@[simp] theorem kind47 : kindT Try.prog 47 = some .func := by kernel_rfl
@[simp] theorem zero47 : zeroT Try.prog 47 = some (.nilFunc) := by kernel_rfl
@[simp] theorem size48 : sizeT Try.prog 48 = some 1 := by kernel_rfl
@[simp] theorem bytes48 : bytesT Try.prog 48 = some 8 := by kernel_rfl
@[simp] theorem agg48 : aggT Try.prog 48 = some false := by kernel_rfl
@[simp] theorem kind48 : kindT Try.prog 48 = some .ptr := by kernel_rfl
@[simp] theorem zero48 : zeroT Try.prog 48 = some (.pointer none) := by kernel_rfl
@[simp] theorem size49 : sizeT Try.prog 49 = some 1 := by kernel_rfl
@[simp] theorem bytes49 : bytesT Try.prog 49 = some 4 := by kernel_rfl
@[simp] theorem agg49 : aggT Try.prog 49 = some false := by kernel_rfl
@[simp] theorem kind49 : kindT Try.prog 49 = some (.int .i32) := by kernel_rfl
@[simp] theorem zero49 : zeroT Try.prog 49 = some (.int .i32 0) := by kernel_rfl
@[simp] theorem size50 : sizeT Try.prog 50 = some 1 := by kernel_rfl
@[simp] theorem bytes50 : bytesT Try.prog 50 = some 4 := by kernel_rfl
@[simp] theorem agg50 : aggT Try.prog 50 = some false := by kernel_rfl
@[simp] theorem kind50 : kindT Try.prog 50 = some (.int .i32) := by kernel_rfl
@[simp] theorem zero50 : zeroT Try.prog 50 = some (.int .i32 0) := by kernel_rfl
@[simp] theorem size51 : sizeT Try.prog 51 = some 11 := by kernel_rfl
@[simp] theorem bytes51 : bytesT Try.prog 51 = some 48 := by kernel_rfl
@[simp] theorem agg51 : aggT Try.prog 51 = some true := by kernel_rfl
@[simp] theorem kind51 : kindT Try.prog 51 = some .struct := by kernel_rfl
@[simp] theorem field51_0 : fieldT Try.prog 51 0 = some (0, 1, 12) := by kernel_rfl
@[simp] theorem field51_1 : fieldT Try.prog 51 1 = some (1, 1, 12) := by kernel_rfl
@[simp] theorem field51_2 : fieldT Try.prog 51 2 = some (2, 1, 44) := by kernel_rfl
@[simp] theorem field51_3 : fieldT Try.prog 51 3 = some (3, 1, 45) := by kernel_rfl
@[simp] theorem field51_4 : fieldT Try.prog 51 4 = some (4, 1, 5) := by kernel_rfl
@[simp] theorem field51_5 : fieldT Try.prog 51 5 = some (5, 1, 5) := by kernel_rfl
@[simp] theorem field51_6 : fieldT Try.prog 51 6 = some (6, 1, 46) := by kernel_rfl
@[simp] theorem field51_7 : fieldT Try.prog 51 7 = some (7, 1, 47) := by kernel_rfl
@[simp] theorem field51_8 : fieldT Try.prog 51 8 = some (8, 1, 48) := by kernel_rfl
@[simp] theorem field51_9 : fieldT Try.prog 51 9 = some (9, 1, 49) := by kernel_rfl
@[simp] theorem field51_10 : fieldT Try.prog 51 10 = some (10, 1, 50) := by kernel_rfl
@[simp] theorem places51 : placesT Try.prog 51 = some [(0, 1), (1, 1), (2, 1), (3, 1), (4, 1), (5, 1), (6, 1), (7, 1), (8, 1), (9, 1), (10, 1)] := by kernel_rfl
@[simp] theorem zero51 : zeroT Try.prog 51 = some (.agg #[.int .u64 0, .int .u64 0, .int .u32 0, .int .u8 0, .int .u8 0, .int .u8 0, .int .u8 0, .nilFunc, .pointer none, .int .i32 0, .int .i32 0]) := by kernel_rfl
@[simp] theorem size52 : sizeT Try.prog 52 = some 11 := by kernel_rfl
@[simp] theorem bytes52 : bytesT Try.prog 52 = some 48 := by kernel_rfl
@[simp] theorem agg52 : aggT Try.prog 52 = some true := by kernel_rfl
@[simp] theorem kind52 : kindT Try.prog 52 = some .struct := by kernel_rfl
@[simp] theorem field52_0 : fieldT Try.prog 52 0 = some (0, 1, 12) := by kernel_rfl
@[simp] theorem field52_1 : fieldT Try.prog 52 1 = some (1, 1, 12) := by kernel_rfl
@[simp] theorem field52_2 : fieldT Try.prog 52 2 = some (2, 1, 44) := by kernel_rfl
@[simp] theorem field52_3 : fieldT Try.prog 52 3 = some (3, 1, 45) := by kernel_rfl
@[simp] theorem field52_4 : fieldT Try.prog 52 4 = some (4, 1, 5) := by kernel_rfl
@[simp] theorem field52_5 : fieldT Try.prog 52 5 = some (5, 1, 5) := by kernel_rfl
@[simp] theorem field52_6 : fieldT Try.prog 52 6 = some (6, 1, 46) := by kernel_rfl
@[simp] theorem field52_7 : fieldT Try.prog 52 7 = some (7, 1, 47) := by kernel_rfl
@[simp] theorem field52_8 : fieldT Try.prog 52 8 = some (8, 1, 48) := by kernel_rfl
@[simp] theorem field52_9 : fieldT Try.prog 52 9 = some (9, 1, 49) := by kernel_rfl
@[simp] theorem field52_10 : fieldT Try.prog 52 10 = some (10, 1, 50) := by kernel_rfl
@[simp] theorem places52 : placesT Try.prog 52 = some [(0, 1), (1, 1), (2, 1), (3, 1), (4, 1), (5, 1), (6, 1), (7, 1), (8, 1), (9, 1), (10, 1)] := by kernel_rfl
@[simp] theorem zero52 : zeroT Try.prog 52 = some (.agg #[.int .u64 0, .int .u64 0, .int .u32 0, .int .u8 0, .int .u8 0, .int .u8 0, .int .u8 0, .nilFunc, .pointer none, .int .i32 0, .int .i32 0]) := by kernel_rfl
@[simp] theorem size53 : sizeT Try.prog 53 = some 1 := by kernel_rfl
@[simp] theorem bytes53 : bytesT Try.prog 53 = some 8 := by kernel_rfl
@[simp] theorem agg53 : aggT Try.prog 53 = some false := by kernel_rfl
@[simp] theorem kind53 : kindT Try.prog 53 = some .other := by kernel_rfl
@[simp] theorem zero53 : zeroT Try.prog 53 = some (.pointer none) := by kernel_rfl
end Go.Vm
