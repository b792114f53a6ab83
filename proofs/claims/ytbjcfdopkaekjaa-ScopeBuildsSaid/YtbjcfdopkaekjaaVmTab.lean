/- What is proved: the facts of the program's types, as the machine asks for them. -/
import Derived.Test.YtbjcfdopkaekjaaProg
import Derived.Test.YtbjcfdopkaekjaaVmJ
namespace Go.Vm
open Go.Proofs
set_option maxRecDepth 100000
@[simp] theorem size3 : sizeT Try.prog 3 = some 1 := by kernel_rfl
@[simp] theorem bytes3 : bytesT Try.prog 3 = some 8 := by kernel_rfl
@[simp] theorem agg3 : aggT Try.prog 3 = some false := by kernel_rfl
@[simp] theorem zero3 : zeroT Try.prog 3 = some (.int .i64 0) := by kernel_rfl
@[simp] theorem kind4 : kindT Try.prog 4 = some .bool := by kernel_rfl
@[simp] theorem size5 : sizeT Try.prog 5 = some 1 := by kernel_rfl
@[simp] theorem agg5 : aggT Try.prog 5 = some false := by kernel_rfl
@[simp] theorem size9 : sizeT Try.prog 9 = some 1 := by kernel_rfl
@[simp] theorem bytes9 : bytesT Try.prog 9 = some 16 := by kernel_rfl
@[simp] theorem agg9 : aggT Try.prog 9 = some false := by kernel_rfl
@[simp] theorem kind9 : kindT Try.prog 9 = some .string := by kernel_rfl
@[simp] theorem zero9 : zeroT Try.prog 9 = some (.string "".toByteArray) := by kernel_rfl
@[simp] theorem kind22 : kindT Try.prog 22 = some .slice := by kernel_rfl
@[simp] theorem elem22 : elemT Try.prog 22 = some 5 := by kernel_rfl
@[simp] theorem agg30 : aggT Try.prog 30 = some false := by kernel_rfl
@[simp] theorem size32 : sizeT Try.prog 32 = some 2 := by kernel_rfl
@[simp] theorem agg32 : aggT Try.prog 32 = some true := by kernel_rfl
@[simp] theorem field32_0 : fieldT Try.prog 32 0 = some (0, 1, 30) := by kernel_rfl
@[simp] theorem places32 : placesT Try.prog 32 = some [(0, 1), (1, 1)] := by kernel_rfl
@[simp] theorem zero32 : zeroT Try.prog 32 = some (.agg #[.int .i64 0, .int .i64 0]) := by kernel_rfl
@[simp] theorem size35 : sizeT Try.prog 35 = some 1 := by kernel_rfl
@[simp] theorem agg35 : aggT Try.prog 35 = some false := by kernel_rfl
@[simp] theorem kind35 : kindT Try.prog 35 = some .slice := by kernel_rfl
@[simp] theorem elem35 : elemT Try.prog 35 = some 51 := by kernel_rfl
@[simp] theorem size36 : sizeT Try.prog 36 = some 1 := by kernel_rfl
@[simp] theorem agg36 : aggT Try.prog 36 = some false := by kernel_rfl
@[simp] theorem kind36 : kindT Try.prog 36 = some .slice := by kernel_rfl
@[simp] theorem elem36 : elemT Try.prog 36 = some 54 := by kernel_rfl
@[simp] theorem size37 : sizeT Try.prog 37 = some 1 := by kernel_rfl
@[simp] theorem elem37 : elemT Try.prog 37 = some 139 := by kernel_rfl
@[simp] theorem size38 : sizeT Try.prog 38 = some 1 := by kernel_rfl
@[simp] theorem elem38 : elemT Try.prog 38 = some 142 := by kernel_rfl
@[simp] theorem size40 : sizeT Try.prog 40 = some 5 := by kernel_rfl
@[simp] theorem agg40 : aggT Try.prog 40 = some true := by kernel_rfl
@[simp] theorem field40_1 : fieldT Try.prog 40 1 = some (1, 1, 35) := by kernel_rfl
@[simp] theorem field40_2 : fieldT Try.prog 40 2 = some (2, 1, 36) := by kernel_rfl
@[simp] theorem field40_3 : fieldT Try.prog 40 3 = some (3, 1, 37) := by kernel_rfl
@[simp] theorem field40_4 : fieldT Try.prog 40 4 = some (4, 1, 38) := by kernel_rfl
@[simp] theorem places40 : placesT Try.prog 40 = some [(0, 1), (1, 1), (2, 1), (3, 1), (4, 1)] := by kernel_rfl
@[simp] theorem zero40 : zeroT Try.prog 40 = some (.agg #[.string "".toByteArray, .slice none 0 0, .slice none 0 0, .slice none 0 0, .slice none 0 0]) := by kernel_rfl
@[simp] theorem kind43 : kindT Try.prog 43 = some .ptr := by kernel_rfl
@[simp] theorem kind46 : kindT Try.prog 46 = some .ptr := by kernel_rfl
@[simp] theorem size51 : sizeT Try.prog 51 = some 4 := by kernel_rfl
@[simp] theorem bytes51 : bytesT Try.prog 51 = some 40 := by kernel_rfl
@[simp] theorem agg51 : aggT Try.prog 51 = some true := by kernel_rfl
@[simp] theorem field51_0 : fieldT Try.prog 51 0 = some (0, 1, 3) := by kernel_rfl
@[simp] theorem field51_1 : fieldT Try.prog 51 1 = some (1, 1, 3) := by kernel_rfl
@[simp] theorem field51_2 : fieldT Try.prog 51 2 = some (2, 1, 9) := by kernel_rfl
@[simp] theorem field51_3 : fieldT Try.prog 51 3 = some (3, 1, 3) := by kernel_rfl
@[simp] theorem places51 : placesT Try.prog 51 = some [(0, 1), (1, 1), (2, 1), (3, 1)] := by kernel_rfl
@[simp] theorem zero51 : zeroT Try.prog 51 = some (.agg #[.int .i64 0, .int .i64 0, .string "".toByteArray, .int .i64 0]) := by kernel_rfl
@[simp] theorem size52 : sizeT Try.prog 52 = some 1 := by kernel_rfl
@[simp] theorem agg52 : aggT Try.prog 52 = some false := by kernel_rfl
@[simp] theorem kind52 : kindT Try.prog 52 = some .slice := by kernel_rfl
@[simp] theorem elem52 : elemT Try.prog 52 = some 56 := by kernel_rfl
@[simp] theorem zero52 : zeroT Try.prog 52 = some (.slice none 0 0) := by kernel_rfl
@[simp] theorem size54 : sizeT Try.prog 54 = some 5 := by kernel_rfl
@[simp] theorem bytes54 : bytesT Try.prog 54 = some 96 := by kernel_rfl
@[simp] theorem agg54 : aggT Try.prog 54 = some true := by kernel_rfl
@[simp] theorem field54_0 : fieldT Try.prog 54 0 = some (0, 1, 3) := by kernel_rfl
@[simp] theorem field54_1 : fieldT Try.prog 54 1 = some (1, 1, 9) := by kernel_rfl
@[simp] theorem field54_2 : fieldT Try.prog 54 2 = some (2, 1, 52) := by kernel_rfl
@[simp] theorem field54_3 : fieldT Try.prog 54 3 = some (3, 1, 52) := by kernel_rfl
@[simp] theorem field54_4 : fieldT Try.prog 54 4 = some (4, 1, 38) := by kernel_rfl
@[simp] theorem places54 : placesT Try.prog 54 = some [(0, 1), (1, 1), (2, 1), (3, 1), (4, 1)] := by kernel_rfl
@[simp] theorem zero54 : zeroT Try.prog 54 = some (.agg #[.int .i64 0, .string "".toByteArray, .slice none 0 0, .slice none 0 0, .slice none 0 0]) := by kernel_rfl
@[simp] theorem size56 : sizeT Try.prog 56 = some 2 := by kernel_rfl
@[simp] theorem bytes56 : bytesT Try.prog 56 = some 24 := by kernel_rfl
@[simp] theorem agg56 : aggT Try.prog 56 = some true := by kernel_rfl
@[simp] theorem field56_0 : fieldT Try.prog 56 0 = some (0, 1, 3) := by kernel_rfl
@[simp] theorem field56_1 : fieldT Try.prog 56 1 = some (1, 1, 9) := by kernel_rfl
@[simp] theorem places56 : placesT Try.prog 56 = some [(0, 1), (1, 1)] := by kernel_rfl
@[simp] theorem zero56 : zeroT Try.prog 56 = some (.agg #[.int .i64 0, .string "".toByteArray]) := by kernel_rfl
@[simp] theorem size58 : sizeT Try.prog 58 = some 1 := by kernel_rfl
@[simp] theorem agg58 : aggT Try.prog 58 = some false := by kernel_rfl
@[simp] theorem kind58 : kindT Try.prog 58 = some .slice := by kernel_rfl
@[simp] theorem elem58 : elemT Try.prog 58 = some 73 := by kernel_rfl
@[simp] theorem size61 : sizeT Try.prog 61 = some 1 := by kernel_rfl
@[simp] theorem agg61 : aggT Try.prog 61 = some false := by kernel_rfl
@[simp] theorem kind61 : kindT Try.prog 61 = some .slice := by kernel_rfl
@[simp] theorem elem61 : elemT Try.prog 61 = some 3 := by kernel_rfl
@[simp] theorem size66 : sizeT Try.prog 66 = some 3 := by kernel_rfl
@[simp] theorem agg66 : aggT Try.prog 66 = some true := by kernel_rfl
@[simp] theorem places66 : placesT Try.prog 66 = some [(0, 1), (1, 1), (2, 1)] := by kernel_rfl
@[simp] theorem zero66 : zeroT Try.prog 66 = some (.agg #[.int .i64 0, .int .i64 0, .int .i64 0]) := by kernel_rfl
@[simp] theorem size73 : sizeT Try.prog 73 = some 2 := by kernel_rfl
@[simp] theorem bytes73 : bytesT Try.prog 73 = some 16 := by kernel_rfl
@[simp] theorem agg73 : aggT Try.prog 73 = some true := by kernel_rfl
@[simp] theorem places73 : placesT Try.prog 73 = some [(0, 1), (1, 1)] := by kernel_rfl
@[simp] theorem zero73 : zeroT Try.prog 73 = some (.agg #[.int .i64 0, .int .i64 0]) := by kernel_rfl
@[simp] theorem size81 : sizeT Try.prog 81 = some 1 := by kernel_rfl
@[simp] theorem agg81 : aggT Try.prog 81 = some false := by kernel_rfl
@[simp] theorem elem81 : elemT Try.prog 81 = some 83 := by kernel_rfl
@[simp] theorem size83 : sizeT Try.prog 83 = some 6 := by kernel_rfl
@[simp] theorem bytes83 : bytesT Try.prog 83 = some 72 := by kernel_rfl
@[simp] theorem agg83 : aggT Try.prog 83 = some true := by kernel_rfl
@[simp] theorem places83 : placesT Try.prog 83 = some [(0, 1), (1, 1), (2, 1), (3, 1), (4, 1), (5, 1)] := by kernel_rfl
@[simp] theorem zero83 : zeroT Try.prog 83 = some (.agg #[.int .i64 0, .int .i64 0, .int .i64 0, .int .i64 0, .string "".toByteArray, .slice none 0 0]) := by kernel_rfl
@[simp] theorem agg84 : aggT Try.prog 84 = some false := by kernel_rfl
@[simp] theorem kind84 : kindT Try.prog 84 = some .slice := by kernel_rfl
@[simp] theorem elem84 : elemT Try.prog 84 = some 98 := by kernel_rfl
@[simp] theorem size89 : sizeT Try.prog 89 = some 4 := by kernel_rfl
@[simp] theorem field89_0 : fieldT Try.prog 89 0 = some (0, 1, 84) := by kernel_rfl
@[simp] theorem field89_1 : fieldT Try.prog 89 1 = some (1, 1, 3) := by kernel_rfl
@[simp] theorem field89_2 : fieldT Try.prog 89 2 = some (2, 2, 32) := by kernel_rfl
@[simp] theorem places89 : placesT Try.prog 89 = some [(0, 1), (1, 1), (2, 2)] := by kernel_rfl
@[simp] theorem zero89 : zeroT Try.prog 89 = some (.agg #[.slice none 0 0, .int .i64 0, .int .i64 0, .int .i64 0]) := by kernel_rfl
@[simp] theorem size98 : sizeT Try.prog 98 = some 4 := by kernel_rfl
@[simp] theorem bytes98 : bytesT Try.prog 98 = some 40 := by kernel_rfl
@[simp] theorem agg98 : aggT Try.prog 98 = some true := by kernel_rfl
@[simp] theorem field98_0 : fieldT Try.prog 98 0 = some (0, 1, 3) := by kernel_rfl
@[simp] theorem field98_1 : fieldT Try.prog 98 1 = some (1, 1, 3) := by kernel_rfl
@[simp] theorem field98_2 : fieldT Try.prog 98 2 = some (2, 1, 3) := by kernel_rfl
@[simp] theorem field98_3 : fieldT Try.prog 98 3 = some (3, 1, 9) := by kernel_rfl
@[simp] theorem places98 : placesT Try.prog 98 = some [(0, 1), (1, 1), (2, 1), (3, 1)] := by kernel_rfl
@[simp] theorem zero98 : zeroT Try.prog 98 = some (.agg #[.int .i64 0, .int .i64 0, .int .i64 0, .string "".toByteArray]) := by kernel_rfl
@[simp] theorem agg101 : aggT Try.prog 101 = some false := by kernel_rfl
@[simp] theorem size102 : sizeT Try.prog 102 = some 1 := by kernel_rfl
@[simp] theorem bytes102 : bytesT Try.prog 102 = some 8 := by kernel_rfl
@[simp] theorem agg102 : aggT Try.prog 102 = some false := by kernel_rfl
@[simp] theorem zero102 : zeroT Try.prog 102 = some (.map none) := by kernel_rfl
@[simp] theorem size103 : sizeT Try.prog 103 = some 1 := by kernel_rfl
@[simp] theorem agg103 : aggT Try.prog 103 = some false := by kernel_rfl
@[simp] theorem kind103 : kindT Try.prog 103 = some .slice := by kernel_rfl
@[simp] theorem elem103 : elemT Try.prog 103 = some 102 := by kernel_rfl
@[simp] theorem size105 : sizeT Try.prog 105 = some 9 := by kernel_rfl
@[simp] theorem field105_0 : fieldT Try.prog 105 0 = some (0, 1, 101) := by kernel_rfl
@[simp] theorem field105_1 : fieldT Try.prog 105 1 = some (1, 1, 102) := by kernel_rfl
@[simp] theorem field105_2 : fieldT Try.prog 105 2 = some (2, 1, 103) := by kernel_rfl
@[simp] theorem field105_3 : fieldT Try.prog 105 3 = some (3, 1, 61) := by kernel_rfl
@[simp] theorem field105_4 : fieldT Try.prog 105 4 = some (4, 1, 58) := by kernel_rfl
@[simp] theorem field105_5 : fieldT Try.prog 105 5 = some (5, 1, 61) := by kernel_rfl
@[simp] theorem field105_6 : fieldT Try.prog 105 6 = some (6, 1, 61) := by kernel_rfl
@[simp] theorem field105_7 : fieldT Try.prog 105 7 = some (7, 1, 102) := by kernel_rfl
@[simp] theorem field105_8 : fieldT Try.prog 105 8 = some (8, 1, 3) := by kernel_rfl
@[simp] theorem places105 : placesT Try.prog 105 = some [(0, 1), (1, 1), (2, 1), (3, 1), (4, 1), (5, 1), (6, 1), (7, 1), (8, 1)] := by kernel_rfl
@[simp] theorem zero105 : zeroT Try.prog 105 = some (.agg #[.map none, .map none, .slice none 0 0, .slice none 0 0, .slice none 0 0, .slice none 0 0, .slice none 0 0, .map none, .int .i64 0]) := by kernel_rfl
@[simp] theorem size111 : sizeT Try.prog 111 = some 1 := by kernel_rfl
@[simp] theorem bytes111 : bytesT Try.prog 111 = some 24 := by kernel_rfl
@[simp] theorem agg111 : aggT Try.prog 111 = some false := by kernel_rfl
@[simp] theorem kind111 : kindT Try.prog 111 = some .slice := by kernel_rfl
@[simp] theorem elem111 : elemT Try.prog 111 = some 9 := by kernel_rfl
@[simp] theorem zero111 : zeroT Try.prog 111 = some (.slice none 0 0) := by kernel_rfl
@[simp] theorem size112 : sizeT Try.prog 112 = some 1 := by kernel_rfl
@[simp] theorem agg112 : aggT Try.prog 112 = some false := by kernel_rfl
@[simp] theorem kind112 : kindT Try.prog 112 = some .slice := by kernel_rfl
@[simp] theorem elem112 : elemT Try.prog 112 = some 118 := by kernel_rfl
@[simp] theorem size113 : sizeT Try.prog 113 = some 1 := by kernel_rfl
@[simp] theorem agg113 : aggT Try.prog 113 = some false := by kernel_rfl
@[simp] theorem kind113 : kindT Try.prog 113 = some .slice := by kernel_rfl
@[simp] theorem elem113 : elemT Try.prog 113 = some 111 := by kernel_rfl
@[simp] theorem size115 : sizeT Try.prog 115 = some 6 := by kernel_rfl
@[simp] theorem field115_0 : fieldT Try.prog 115 0 = some (0, 1, 111) := by kernel_rfl
@[simp] theorem field115_1 : fieldT Try.prog 115 1 = some (1, 1, 112) := by kernel_rfl
@[simp] theorem field115_2 : fieldT Try.prog 115 2 = some (2, 1, 111) := by kernel_rfl
@[simp] theorem field115_3 : fieldT Try.prog 115 3 = some (3, 1, 61) := by kernel_rfl
@[simp] theorem field115_4 : fieldT Try.prog 115 4 = some (4, 1, 113) := by kernel_rfl
@[simp] theorem field115_5 : fieldT Try.prog 115 5 = some (5, 1, 61) := by kernel_rfl
@[simp] theorem places115 : placesT Try.prog 115 = some [(0, 1), (1, 1), (2, 1), (3, 1), (4, 1), (5, 1)] := by kernel_rfl
@[simp] theorem zero115 : zeroT Try.prog 115 = some (.agg #[.slice none 0 0, .slice none 0 0, .slice none 0 0, .slice none 0 0, .slice none 0 0, .slice none 0 0]) := by kernel_rfl
@[simp] theorem size118 : sizeT Try.prog 118 = some 3 := by kernel_rfl
@[simp] theorem bytes118 : bytesT Try.prog 118 = some 24 := by kernel_rfl
@[simp] theorem agg118 : aggT Try.prog 118 = some true := by kernel_rfl
@[simp] theorem field118_0 : fieldT Try.prog 118 0 = some (0, 1, 3) := by kernel_rfl
@[simp] theorem field118_1 : fieldT Try.prog 118 1 = some (1, 1, 3) := by kernel_rfl
@[simp] theorem field118_2 : fieldT Try.prog 118 2 = some (2, 1, 3) := by kernel_rfl
@[simp] theorem places118 : placesT Try.prog 118 = some [(0, 1), (1, 1), (2, 1)] := by kernel_rfl
@[simp] theorem zero118 : zeroT Try.prog 118 = some (.agg #[.int .i64 0, .int .i64 0, .int .i64 0]) := by kernel_rfl
@[simp] theorem size139 : sizeT Try.prog 139 = some 3 := by kernel_rfl
@[simp] theorem bytes139 : bytesT Try.prog 139 = some 32 := by kernel_rfl
@[simp] theorem places139 : placesT Try.prog 139 = some [(0, 1), (1, 1), (2, 1)] := by kernel_rfl
@[simp] theorem zero139 : zeroT Try.prog 139 = some (.agg #[.int .i64 0, .string "".toByteArray, .int .i64 0]) := by kernel_rfl
@[simp] theorem size140 : sizeT Try.prog 140 = some 1 := by kernel_rfl
@[simp] theorem agg140 : aggT Try.prog 140 = some false := by kernel_rfl
@[simp] theorem elem140 : elemT Try.prog 140 = some 164 := by kernel_rfl
@[simp] theorem size142 : sizeT Try.prog 142 = some 8 := by kernel_rfl
@[simp] theorem bytes142 : bytesT Try.prog 142 = some 152 := by kernel_rfl
@[simp] theorem agg142 : aggT Try.prog 142 = some true := by kernel_rfl
@[simp] theorem field142_0 : fieldT Try.prog 142 0 = some (0, 1, 3) := by kernel_rfl
@[simp] theorem field142_2 : fieldT Try.prog 142 2 = some (2, 1, 9) := by kernel_rfl
@[simp] theorem field142_3 : fieldT Try.prog 142 3 = some (3, 1, 81) := by kernel_rfl
@[simp] theorem field142_4 : fieldT Try.prog 142 4 = some (4, 1, 38) := by kernel_rfl
@[simp] theorem field142_5 : fieldT Try.prog 142 5 = some (5, 1, 38) := by kernel_rfl
@[simp] theorem field142_6 : fieldT Try.prog 142 6 = some (6, 1, 140) := by kernel_rfl
@[simp] theorem field142_7 : fieldT Try.prog 142 7 = some (7, 1, 37) := by kernel_rfl
@[simp] theorem places142 : placesT Try.prog 142 = some [(0, 1), (1, 1), (2, 1), (3, 1), (4, 1), (5, 1), (6, 1), (7, 1)] := by kernel_rfl
@[simp] theorem zero142 : zeroT Try.prog 142 = some (.agg #[.int .i64 0, .int .i64 0, .string "".toByteArray, .slice none 0 0, .slice none 0 0, .slice none 0 0, .slice none 0 0, .slice none 0 0]) := by kernel_rfl
@[simp] theorem size145 : sizeT Try.prog 145 = some 0 := by kernel_rfl
@[simp] theorem places145 : placesT Try.prog 145 = some [] := by kernel_rfl
@[simp] theorem zero145 : zeroT Try.prog 145 = some (.agg #[]) := by kernel_rfl
@[simp] theorem size146 : sizeT Try.prog 146 = some 0 := by kernel_rfl
@[simp] theorem places146 : placesT Try.prog 146 = some [] := by kernel_rfl
@[simp] theorem zero146 : zeroT Try.prog 146 = some (.agg #[]) := by kernel_rfl
@[simp] theorem size147 : sizeT Try.prog 147 = some 0 := by kernel_rfl
@[simp] theorem agg147 : aggT Try.prog 147 = some true := by kernel_rfl
@[simp] theorem places147 : placesT Try.prog 147 = some [] := by kernel_rfl
@[simp] theorem zero147 : zeroT Try.prog 147 = some (.agg #[]) := by kernel_rfl
@[simp] theorem size149 : sizeT Try.prog 149 = some 0 := by kernel_rfl
@[simp] theorem field149_0 : fieldT Try.prog 149 0 = some (0, 0, 147) := by kernel_rfl
@[simp] theorem places149 : placesT Try.prog 149 = some [(0, 0)] := by kernel_rfl
@[simp] theorem zero149 : zeroT Try.prog 149 = some (.agg #[]) := by kernel_rfl
@[simp] theorem size160 : sizeT Try.prog 160 = some 32 := by kernel_rfl
@[simp] theorem arr160 : arrT Try.prog 160 = some (32, 9) := by kernel_rfl
@[simp] theorem zero160 : zeroT Try.prog 160 = some (.agg #[.string "".toByteArray, .string "".toByteArray, .string "".toByteArray, .string "".toByteArray, .string "".toByteArray, .string "".toByteArray, .string "".toByteArray, .string "".toByteArray, .string "".toByteArray, .string "".toByteArray, .string "".toByteArray, .string "".toByteArray, .string "".toByteArray, .string "".toByteArray, .string "".toByteArray, .string "".toByteArray, .string "".toByteArray, .string "".toByteArray, .string "".toByteArray, .string "".toByteArray, .string "".toByteArray, .string "".toByteArray, .string "".toByteArray, .string "".toByteArray, .string "".toByteArray, .string "".toByteArray, .string "".toByteArray, .string "".toByteArray, .string "".toByteArray, .string "".toByteArray, .string "".toByteArray, .string "".toByteArray]) := by kernel_rfl
@[simp] theorem size164 : sizeT Try.prog 164 = some 4 := by kernel_rfl
@[simp] theorem bytes164 : bytesT Try.prog 164 = some 72 := by kernel_rfl
@[simp] theorem agg164 : aggT Try.prog 164 = some true := by kernel_rfl
@[simp] theorem field164_3 : fieldT Try.prog 164 3 = some (3, 1, 37) := by kernel_rfl
@[simp] theorem places164 : placesT Try.prog 164 = some [(0, 1), (1, 1), (2, 1), (3, 1)] := by kernel_rfl
@[simp] theorem zero164 : zeroT Try.prog 164 = some (.agg #[.int .i64 0, .string "".toByteArray, .slice none 0 0, .slice none 0 0]) := by kernel_rfl
@[simp] theorem elem167 : elemT Try.prog 167 = some 52 := by kernel_rfl
@[simp] theorem size178 : sizeT Try.prog 178 = some 13 := by kernel_rfl
@[simp] theorem arr178 : arrT Try.prog 178 = some (13, 9) := by kernel_rfl
@[simp] theorem zero178 : zeroT Try.prog 178 = some (.agg #[.string "".toByteArray, .string "".toByteArray, .string "".toByteArray, .string "".toByteArray, .string "".toByteArray, .string "".toByteArray, .string "".toByteArray, .string "".toByteArray, .string "".toByteArray, .string "".toByteArray, .string "".toByteArray, .string "".toByteArray, .string "".toByteArray]) := by kernel_rfl
@[simp] theorem size179 : sizeT Try.prog 179 = some 13 := by kernel_rfl
@[simp] theorem arr179 : arrT Try.prog 179 = some (13, 3) := by kernel_rfl
@[simp] theorem zero179 : zeroT Try.prog 179 = some (.agg #[.int .i64 0, .int .i64 0, .int .i64 0, .int .i64 0, .int .i64 0, .int .i64 0, .int .i64 0, .int .i64 0, .int .i64 0, .int .i64 0, .int .i64 0, .int .i64 0, .int .i64 0]) := by kernel_rfl
end Go.Vm
