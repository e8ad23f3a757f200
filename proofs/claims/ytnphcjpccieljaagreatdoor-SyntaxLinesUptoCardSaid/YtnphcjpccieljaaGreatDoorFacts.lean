/- Sizes and zero values of the types of the program. -/
import Derived.Test.YtnphcjpccieljaaGreatDoorGTe
import Derived.Test.YtnphcjpccieljaaGreatDoorProg
namespace Go.Proofs.YtnphcjpccieljaaGreatDoor
open Go Go.RowKit

theorem cells_1 : Tryz.prog.cellsOf 1 = 1 := by kernel_rfl
theorem bytes_1 : Tryz.prog.bytesOf 1 = 8 := by kernel_rfl
theorem zero_1 : zeroOf Tryz.prog 1 = some (.nilFunc) := by kernel_rfl
theorem agg_1 : aggOf Tryz.prog 1 = some false := by kernel_rfl
theorem cells_2 : Tryz.prog.cellsOf 2 = 1 := by kernel_rfl
theorem bytes_2 : Tryz.prog.bytesOf 2 = 8 := by kernel_rfl
theorem zero_2 : zeroOf Tryz.prog 2 = some (.int .i64 0) := by kernel_rfl
theorem agg_2 : aggOf Tryz.prog 2 = some false := by kernel_rfl
theorem cells_3 : Tryz.prog.cellsOf 3 = 1 := by kernel_rfl
theorem bytes_3 : Tryz.prog.bytesOf 3 = 8 := by kernel_rfl
theorem zero_3 : zeroOf Tryz.prog 3 = some (.int .i64 0) := by kernel_rfl
theorem agg_3 : aggOf Tryz.prog 3 = some false := by kernel_rfl
theorem cells_4 : Tryz.prog.cellsOf 4 = 1 := by kernel_rfl
theorem bytes_4 : Tryz.prog.bytesOf 4 = 1 := by kernel_rfl
theorem zero_4 : zeroOf Tryz.prog 4 = some (.bool false) := by kernel_rfl
theorem agg_4 : aggOf Tryz.prog 4 = some false := by kernel_rfl
theorem cells_5 : Tryz.prog.cellsOf 5 = 1 := by kernel_rfl
theorem bytes_5 : Tryz.prog.bytesOf 5 = 1 := by kernel_rfl
theorem zero_5 : zeroOf Tryz.prog 5 = some (.int .u8 0) := by kernel_rfl
theorem agg_5 : aggOf Tryz.prog 5 = some false := by kernel_rfl
theorem cells_6 : Tryz.prog.cellsOf 6 = 1 := by kernel_rfl
theorem bytes_6 : Tryz.prog.bytesOf 6 = 1 := by kernel_rfl
theorem zero_6 : zeroOf Tryz.prog 6 = some (.int .u8 0) := by kernel_rfl
theorem agg_6 : aggOf Tryz.prog 6 = some false := by kernel_rfl
theorem cells_7 : Tryz.prog.cellsOf 7 = 4 := by kernel_rfl
theorem bytes_7 : Tryz.prog.bytesOf 7 = 24 := by kernel_rfl
theorem zero_7 : zeroOf Tryz.prog 7 = some (.agg #[.int .i64 0, .int .i64 0, .bool false, .int .u8 0]) := by kernel_rfl
theorem agg_7 : aggOf Tryz.prog 7 = some true := by kernel_rfl
theorem cells_8 : Tryz.prog.cellsOf 8 = 4 := by kernel_rfl
theorem bytes_8 : Tryz.prog.bytesOf 8 = 24 := by kernel_rfl
theorem zero_8 : zeroOf Tryz.prog 8 = some (.agg #[.int .i64 0, .int .i64 0, .bool false, .int .u8 0]) := by kernel_rfl
theorem agg_8 : aggOf Tryz.prog 8 = some true := by kernel_rfl
theorem cells_9 : Tryz.prog.cellsOf 9 = 1 := by kernel_rfl
theorem bytes_9 : Tryz.prog.bytesOf 9 = 16 := by kernel_rfl
theorem zero_9 : zeroOf Tryz.prog 9 = some (.string ⟨#[]⟩) := by kernel_rfl
theorem agg_9 : aggOf Tryz.prog 9 = some false := by kernel_rfl
theorem cells_10 : Tryz.prog.cellsOf 10 = 1 := by kernel_rfl
theorem bytes_10 : Tryz.prog.bytesOf 10 = 16 := by kernel_rfl
theorem zero_10 : zeroOf Tryz.prog 10 = some (.string ⟨#[]⟩) := by kernel_rfl
theorem agg_10 : aggOf Tryz.prog 10 = some false := by kernel_rfl
theorem cells_11 : Tryz.prog.cellsOf 11 = 1 := by kernel_rfl
theorem bytes_11 : Tryz.prog.bytesOf 11 = 16 := by kernel_rfl
theorem zero_11 : zeroOf Tryz.prog 11 = some (.string ⟨#[]⟩) := by kernel_rfl
theorem agg_11 : aggOf Tryz.prog 11 = some false := by kernel_rfl
theorem cells_12 : Tryz.prog.cellsOf 12 = 1 := by kernel_rfl
theorem bytes_12 : Tryz.prog.bytesOf 12 = 8 := by kernel_rfl
theorem zero_12 : zeroOf Tryz.prog 12 = some (.int .u64 0) := by kernel_rfl
theorem agg_12 : aggOf Tryz.prog 12 = some false := by kernel_rfl
theorem cells_13 : Tryz.prog.cellsOf 13 = 2 := by kernel_rfl
theorem bytes_13 : Tryz.prog.bytesOf 13 = 24 := by kernel_rfl
theorem zero_13 : zeroOf Tryz.prog 13 = some (.agg #[.string ⟨#[]⟩, .int .u64 0]) := by kernel_rfl
theorem agg_13 : aggOf Tryz.prog 13 = some true := by kernel_rfl
theorem cells_14 : Tryz.prog.cellsOf 14 = 2 := by kernel_rfl
theorem bytes_14 : Tryz.prog.bytesOf 14 = 24 := by kernel_rfl
theorem zero_14 : zeroOf Tryz.prog 14 = some (.agg #[.string ⟨#[]⟩, .int .u64 0]) := by kernel_rfl
theorem agg_14 : aggOf Tryz.prog 14 = some true := by kernel_rfl
theorem cells_15 : Tryz.prog.cellsOf 15 = 1 := by kernel_rfl
theorem bytes_15 : Tryz.prog.bytesOf 15 = 8 := by kernel_rfl
theorem zero_15 : zeroOf Tryz.prog 15 = some (.pointer none) := by kernel_rfl
theorem agg_15 : aggOf Tryz.prog 15 = some false := by kernel_rfl
theorem cells_16 : Tryz.prog.cellsOf 16 = 1 := by kernel_rfl
theorem bytes_16 : Tryz.prog.bytesOf 16 = 8 := by kernel_rfl
theorem zero_16 : zeroOf Tryz.prog 16 = some (.pointer none) := by kernel_rfl
theorem agg_16 : aggOf Tryz.prog 16 = some false := by kernel_rfl
theorem cells_17 : Tryz.prog.cellsOf 17 = 1 := by kernel_rfl
theorem bytes_17 : Tryz.prog.bytesOf 17 = 8 := by kernel_rfl
theorem zero_17 : zeroOf Tryz.prog 17 = some (.pointer none) := by kernel_rfl
theorem agg_17 : aggOf Tryz.prog 17 = some false := by kernel_rfl
theorem cells_18 : Tryz.prog.cellsOf 18 = 1 := by kernel_rfl
theorem bytes_18 : Tryz.prog.bytesOf 18 = 8 := by kernel_rfl
theorem zero_18 : zeroOf Tryz.prog 18 = some (.agg #[.pointer none]) := by kernel_rfl
theorem agg_18 : aggOf Tryz.prog 18 = some true := by kernel_rfl
theorem cells_19 : Tryz.prog.cellsOf 19 = 1 := by kernel_rfl
theorem bytes_19 : Tryz.prog.bytesOf 19 = 8 := by kernel_rfl
theorem zero_19 : zeroOf Tryz.prog 19 = some (.agg #[.pointer none]) := by kernel_rfl
theorem agg_19 : aggOf Tryz.prog 19 = some true := by kernel_rfl
theorem cells_20 : Tryz.prog.cellsOf 20 = 1 := by kernel_rfl
theorem bytes_20 : Tryz.prog.bytesOf 20 = 16 := by kernel_rfl
theorem zero_20 : zeroOf Tryz.prog 20 = some (.nilIface) := by kernel_rfl
theorem agg_20 : aggOf Tryz.prog 20 = some false := by kernel_rfl
theorem cells_21 : Tryz.prog.cellsOf 21 = 1 := by kernel_rfl
theorem bytes_21 : Tryz.prog.bytesOf 21 = 4 := by kernel_rfl
theorem zero_21 : zeroOf Tryz.prog 21 = some (.int .i32 0) := by kernel_rfl
theorem agg_21 : aggOf Tryz.prog 21 = some false := by kernel_rfl
theorem cells_22 : Tryz.prog.cellsOf 22 = 1 := by kernel_rfl
theorem bytes_22 : Tryz.prog.bytesOf 22 = 24 := by kernel_rfl
theorem zero_22 : zeroOf Tryz.prog 22 = some (.slice none 0 0) := by kernel_rfl
theorem agg_22 : aggOf Tryz.prog 22 = some false := by kernel_rfl
theorem cells_23 : Tryz.prog.cellsOf 23 = 1 := by kernel_rfl
theorem bytes_23 : Tryz.prog.bytesOf 23 = 24 := by kernel_rfl
theorem zero_23 : zeroOf Tryz.prog 23 = some (.slice none 0 0) := by kernel_rfl
theorem agg_23 : aggOf Tryz.prog 23 = some false := by kernel_rfl
theorem cells_24 : Tryz.prog.cellsOf 24 = 2 := by kernel_rfl
theorem bytes_24 : Tryz.prog.bytesOf 24 = 48 := by kernel_rfl
theorem zero_24 : zeroOf Tryz.prog 24 = some (.agg #[.slice none 0 0, .slice none 0 0]) := by kernel_rfl
theorem agg_24 : aggOf Tryz.prog 24 = some true := by kernel_rfl
theorem cells_25 : Tryz.prog.cellsOf 25 = 2 := by kernel_rfl
theorem bytes_25 : Tryz.prog.bytesOf 25 = 48 := by kernel_rfl
theorem zero_25 : zeroOf Tryz.prog 25 = some (.agg #[.slice none 0 0, .slice none 0 0]) := by kernel_rfl
theorem agg_25 : aggOf Tryz.prog 25 = some true := by kernel_rfl
theorem cells_26 : Tryz.prog.cellsOf 26 = 1 := by kernel_rfl
theorem bytes_26 : Tryz.prog.bytesOf 26 = 8 := by kernel_rfl
theorem zero_26 : zeroOf Tryz.prog 26 = some (.nilFunc) := by kernel_rfl
theorem agg_26 : aggOf Tryz.prog 26 = some false := by kernel_rfl
theorem cells_27 : Tryz.prog.cellsOf 27 = 1 := by kernel_rfl
theorem bytes_27 : Tryz.prog.bytesOf 27 = 8 := by kernel_rfl
theorem zero_27 : zeroOf Tryz.prog 27 = some (.nilFunc) := by kernel_rfl
theorem agg_27 : aggOf Tryz.prog 27 = some false := by kernel_rfl
theorem cells_28 : Tryz.prog.cellsOf 28 = 1 := by kernel_rfl
theorem bytes_28 : Tryz.prog.bytesOf 28 = 8 := by kernel_rfl
theorem zero_28 : zeroOf Tryz.prog 28 = some (.int .i64 0) := by kernel_rfl
theorem agg_28 : aggOf Tryz.prog 28 = some false := by kernel_rfl
theorem cells_30 : Tryz.prog.cellsOf 30 = 1 := by kernel_rfl
theorem bytes_30 : Tryz.prog.bytesOf 30 = 8 := by kernel_rfl
theorem zero_30 : zeroOf Tryz.prog 30 = some (.nilFunc) := by kernel_rfl
theorem agg_30 : aggOf Tryz.prog 30 = some false := by kernel_rfl
theorem cells_31 : Tryz.prog.cellsOf 31 = 1 := by kernel_rfl
theorem bytes_31 : Tryz.prog.bytesOf 31 = 8 := by kernel_rfl
theorem zero_31 : zeroOf Tryz.prog 31 = some (.nilFunc) := by kernel_rfl
theorem agg_31 : aggOf Tryz.prog 31 = some false := by kernel_rfl
theorem cells_32 : Tryz.prog.cellsOf 32 = 1 := by kernel_rfl
theorem bytes_32 : Tryz.prog.bytesOf 32 = 8 := by kernel_rfl
theorem zero_32 : zeroOf Tryz.prog 32 = some (.nilFunc) := by kernel_rfl
theorem agg_32 : aggOf Tryz.prog 32 = some false := by kernel_rfl
theorem cells_33 : Tryz.prog.cellsOf 33 = 1 := by kernel_rfl
theorem bytes_33 : Tryz.prog.bytesOf 33 = 24 := by kernel_rfl
theorem zero_33 : zeroOf Tryz.prog 33 = some (.slice none 0 0) := by kernel_rfl
theorem agg_33 : aggOf Tryz.prog 33 = some false := by kernel_rfl
theorem cells_34 : Tryz.prog.cellsOf 34 = 6 := by kernel_rfl
theorem bytes_34 : Tryz.prog.bytesOf 34 = 80 := by kernel_rfl
theorem zero_34 : zeroOf Tryz.prog 34 = some (.agg #[.int .i64 0, .string ⟨#[]⟩, .string ⟨#[]⟩, .int .i64 0, .int .i64 0, .slice none 0 0]) := by kernel_rfl
theorem agg_34 : aggOf Tryz.prog 34 = some true := by kernel_rfl
theorem cells_35 : Tryz.prog.cellsOf 35 = 6 := by kernel_rfl
theorem bytes_35 : Tryz.prog.bytesOf 35 = 80 := by kernel_rfl
theorem zero_35 : zeroOf Tryz.prog 35 = some (.agg #[.int .i64 0, .string ⟨#[]⟩, .string ⟨#[]⟩, .int .i64 0, .int .i64 0, .slice none 0 0]) := by kernel_rfl
theorem agg_35 : aggOf Tryz.prog 35 = some true := by kernel_rfl
theorem cells_36 : Tryz.prog.cellsOf 36 = 1 := by kernel_rfl
theorem bytes_36 : Tryz.prog.bytesOf 36 = 8 := by kernel_rfl
theorem zero_36 : zeroOf Tryz.prog 36 = some (.nilFunc) := by kernel_rfl
theorem agg_36 : aggOf Tryz.prog 36 = some false := by kernel_rfl
theorem cells_37 : Tryz.prog.cellsOf 37 = 1 := by kernel_rfl
theorem bytes_37 : Tryz.prog.bytesOf 37 = 8 := by kernel_rfl
theorem zero_37 : zeroOf Tryz.prog 37 = some (.nilFunc) := by kernel_rfl
theorem agg_37 : aggOf Tryz.prog 37 = some false := by kernel_rfl
theorem cells_38 : Tryz.prog.cellsOf 38 = 1 := by kernel_rfl
theorem bytes_38 : Tryz.prog.bytesOf 38 = 8 := by kernel_rfl
theorem zero_38 : zeroOf Tryz.prog 38 = some (.nilFunc) := by kernel_rfl
theorem agg_38 : aggOf Tryz.prog 38 = some false := by kernel_rfl
theorem cells_39 : Tryz.prog.cellsOf 39 = 1 := by kernel_rfl
theorem bytes_39 : Tryz.prog.bytesOf 39 = 8 := by kernel_rfl
theorem zero_39 : zeroOf Tryz.prog 39 = some (.nilFunc) := by kernel_rfl
theorem agg_39 : aggOf Tryz.prog 39 = some false := by kernel_rfl
theorem cells_40 : Tryz.prog.cellsOf 40 = 1 := by kernel_rfl
theorem bytes_40 : Tryz.prog.bytesOf 40 = 8 := by kernel_rfl
theorem zero_40 : zeroOf Tryz.prog 40 = some (.nilFunc) := by kernel_rfl
theorem agg_40 : aggOf Tryz.prog 40 = some false := by kernel_rfl
theorem cells_41 : Tryz.prog.cellsOf 41 = 1 := by kernel_rfl
theorem bytes_41 : Tryz.prog.bytesOf 41 = 8 := by kernel_rfl
theorem zero_41 : zeroOf Tryz.prog 41 = some (.nilFunc) := by kernel_rfl
theorem agg_41 : aggOf Tryz.prog 41 = some false := by kernel_rfl
theorem cells_42 : Tryz.prog.cellsOf 42 = 1 := by kernel_rfl
theorem bytes_42 : Tryz.prog.bytesOf 42 = 8 := by kernel_rfl
theorem zero_42 : zeroOf Tryz.prog 42 = some (.nilFunc) := by kernel_rfl
theorem agg_42 : aggOf Tryz.prog 42 = some false := by kernel_rfl
theorem cells_43 : Tryz.prog.cellsOf 43 = 1 := by kernel_rfl
theorem bytes_43 : Tryz.prog.bytesOf 43 = 8 := by kernel_rfl
theorem zero_43 : zeroOf Tryz.prog 43 = some (.nilFunc) := by kernel_rfl
theorem agg_43 : aggOf Tryz.prog 43 = some false := by kernel_rfl
theorem cells_44 : Tryz.prog.cellsOf 44 = 1 := by kernel_rfl
theorem bytes_44 : Tryz.prog.bytesOf 44 = 8 := by kernel_rfl
theorem zero_44 : zeroOf Tryz.prog 44 = some (.nilFunc) := by kernel_rfl
theorem agg_44 : aggOf Tryz.prog 44 = some false := by kernel_rfl
theorem cells_45 : Tryz.prog.cellsOf 45 = 1 := by kernel_rfl
theorem bytes_45 : Tryz.prog.bytesOf 45 = 8 := by kernel_rfl
theorem zero_45 : zeroOf Tryz.prog 45 = some (.nilFunc) := by kernel_rfl
theorem agg_45 : aggOf Tryz.prog 45 = some false := by kernel_rfl
theorem cells_46 : Tryz.prog.cellsOf 46 = 1 := by kernel_rfl
theorem bytes_46 : Tryz.prog.bytesOf 46 = 24 := by kernel_rfl
theorem zero_46 : zeroOf Tryz.prog 46 = some (.slice none 0 0) := by kernel_rfl
theorem agg_46 : aggOf Tryz.prog 46 = some false := by kernel_rfl
theorem cells_48 : Tryz.prog.cellsOf 48 = 1 := by kernel_rfl
theorem bytes_48 : Tryz.prog.bytesOf 48 = 8 := by kernel_rfl
theorem zero_48 : zeroOf Tryz.prog 48 = some (.nilFunc) := by kernel_rfl
theorem agg_48 : aggOf Tryz.prog 48 = some false := by kernel_rfl
theorem cells_49 : Tryz.prog.cellsOf 49 = 3 := by kernel_rfl
theorem bytes_49 : Tryz.prog.bytesOf 49 = 32 := by kernel_rfl
theorem zero_49 : zeroOf Tryz.prog 49 = some (.agg #[.int .i64 0, .string ⟨#[]⟩, .int .i64 0]) := by kernel_rfl
theorem agg_49 : aggOf Tryz.prog 49 = some true := by kernel_rfl
theorem cells_50 : Tryz.prog.cellsOf 50 = 3 := by kernel_rfl
theorem bytes_50 : Tryz.prog.bytesOf 50 = 32 := by kernel_rfl
theorem zero_50 : zeroOf Tryz.prog 50 = some (.agg #[.int .i64 0, .string ⟨#[]⟩, .int .i64 0]) := by kernel_rfl
theorem agg_50 : aggOf Tryz.prog 50 = some true := by kernel_rfl
theorem cells_51 : Tryz.prog.cellsOf 51 = 1 := by kernel_rfl
theorem bytes_51 : Tryz.prog.bytesOf 51 = 8 := by kernel_rfl
theorem zero_51 : zeroOf Tryz.prog 51 = some (.nilFunc) := by kernel_rfl
theorem agg_51 : aggOf Tryz.prog 51 = some false := by kernel_rfl
theorem cells_52 : Tryz.prog.cellsOf 52 = 1 := by kernel_rfl
theorem bytes_52 : Tryz.prog.bytesOf 52 = 8 := by kernel_rfl
theorem zero_52 : zeroOf Tryz.prog 52 = some (.nilFunc) := by kernel_rfl
theorem agg_52 : aggOf Tryz.prog 52 = some false := by kernel_rfl
theorem cells_53 : Tryz.prog.cellsOf 53 = 11 := by kernel_rfl
theorem bytes_53 : Tryz.prog.bytesOf 53 = 136 := by kernel_rfl
theorem zero_53 : zeroOf Tryz.prog 53 = some (.agg #[.int .i64 0, .int .i64 0, .bool false, .slice none 0 0, .bool false, .int .i64 0, .string ⟨#[]⟩, .string ⟨#[]⟩, .int .i64 0, .int .i64 0, .slice none 0 0]) := by kernel_rfl
theorem agg_53 : aggOf Tryz.prog 53 = some true := by kernel_rfl
theorem cells_54 : Tryz.prog.cellsOf 54 = 11 := by kernel_rfl
theorem bytes_54 : Tryz.prog.bytesOf 54 = 136 := by kernel_rfl
theorem zero_54 : zeroOf Tryz.prog 54 = some (.agg #[.int .i64 0, .int .i64 0, .bool false, .slice none 0 0, .bool false, .int .i64 0, .string ⟨#[]⟩, .string ⟨#[]⟩, .int .i64 0, .int .i64 0, .slice none 0 0]) := by kernel_rfl
theorem agg_54 : aggOf Tryz.prog 54 = some true := by kernel_rfl
theorem cells_55 : Tryz.prog.cellsOf 55 = 1 := by kernel_rfl
theorem bytes_55 : Tryz.prog.bytesOf 55 = 8 := by kernel_rfl
theorem zero_55 : zeroOf Tryz.prog 55 = some (.nilFunc) := by kernel_rfl
theorem agg_55 : aggOf Tryz.prog 55 = some false := by kernel_rfl
theorem cells_56 : Tryz.prog.cellsOf 56 = 1 := by kernel_rfl
theorem bytes_56 : Tryz.prog.bytesOf 56 = 8 := by kernel_rfl
theorem zero_56 : zeroOf Tryz.prog 56 = some (.nilFunc) := by kernel_rfl
theorem agg_56 : aggOf Tryz.prog 56 = some false := by kernel_rfl
theorem cells_57 : Tryz.prog.cellsOf 57 = 1 := by kernel_rfl
theorem bytes_57 : Tryz.prog.bytesOf 57 = 8 := by kernel_rfl
theorem zero_57 : zeroOf Tryz.prog 57 = some (.nilFunc) := by kernel_rfl
theorem agg_57 : aggOf Tryz.prog 57 = some false := by kernel_rfl
theorem cells_58 : Tryz.prog.cellsOf 58 = 1 := by kernel_rfl
theorem bytes_58 : Tryz.prog.bytesOf 58 = 8 := by kernel_rfl
theorem zero_58 : zeroOf Tryz.prog 58 = some (.pointer none) := by kernel_rfl
theorem agg_58 : aggOf Tryz.prog 58 = some false := by kernel_rfl
theorem cells_59 : Tryz.prog.cellsOf 59 = 1 := by kernel_rfl
theorem bytes_59 : Tryz.prog.bytesOf 59 = 24 := by kernel_rfl
theorem zero_59 : zeroOf Tryz.prog 59 = some (.slice none 0 0) := by kernel_rfl
theorem agg_59 : aggOf Tryz.prog 59 = some false := by kernel_rfl
theorem cells_60 : Tryz.prog.cellsOf 60 = 2 := by kernel_rfl
theorem bytes_60 : Tryz.prog.bytesOf 60 = 32 := by kernel_rfl
theorem zero_60 : zeroOf Tryz.prog 60 = some (.agg #[.pointer none, .slice none 0 0]) := by kernel_rfl
theorem agg_60 : aggOf Tryz.prog 60 = some true := by kernel_rfl
theorem cells_61 : Tryz.prog.cellsOf 61 = 2 := by kernel_rfl
theorem bytes_61 : Tryz.prog.bytesOf 61 = 32 := by kernel_rfl
theorem zero_61 : zeroOf Tryz.prog 61 = some (.agg #[.pointer none, .slice none 0 0]) := by kernel_rfl
theorem agg_61 : aggOf Tryz.prog 61 = some true := by kernel_rfl
theorem cells_62 : Tryz.prog.cellsOf 62 = 1 := by kernel_rfl
theorem bytes_62 : Tryz.prog.bytesOf 62 = 16 := by kernel_rfl
theorem zero_62 : zeroOf Tryz.prog 62 = some (.nilIface) := by kernel_rfl
theorem agg_62 : aggOf Tryz.prog 62 = some false := by kernel_rfl
theorem cells_63 : Tryz.prog.cellsOf 63 = 1 := by kernel_rfl
theorem bytes_63 : Tryz.prog.bytesOf 63 = 16 := by kernel_rfl
theorem zero_63 : zeroOf Tryz.prog 63 = some (.nilIface) := by kernel_rfl
theorem agg_63 : aggOf Tryz.prog 63 = some false := by kernel_rfl
theorem cells_65 : Tryz.prog.cellsOf 65 = 1 := by kernel_rfl
theorem bytes_65 : Tryz.prog.bytesOf 65 = 8 := by kernel_rfl
theorem zero_65 : zeroOf Tryz.prog 65 = some (.nilFunc) := by kernel_rfl
theorem agg_65 : aggOf Tryz.prog 65 = some false := by kernel_rfl
theorem cells_66 : Tryz.prog.cellsOf 66 = 1 := by kernel_rfl
theorem bytes_66 : Tryz.prog.bytesOf 66 = 8 := by kernel_rfl
theorem zero_66 : zeroOf Tryz.prog 66 = some (.nilFunc) := by kernel_rfl
theorem agg_66 : aggOf Tryz.prog 66 = some false := by kernel_rfl
theorem cells_67 : Tryz.prog.cellsOf 67 = 1 := by kernel_rfl
theorem bytes_67 : Tryz.prog.bytesOf 67 = 8 := by kernel_rfl
theorem zero_67 : zeroOf Tryz.prog 67 = some (.nilFunc) := by kernel_rfl
theorem agg_67 : aggOf Tryz.prog 67 = some false := by kernel_rfl
theorem cells_68 : Tryz.prog.cellsOf 68 = 1 := by kernel_rfl
theorem bytes_68 : Tryz.prog.bytesOf 68 = 8 := by kernel_rfl
theorem zero_68 : zeroOf Tryz.prog 68 = some (.nilFunc) := by kernel_rfl
theorem agg_68 : aggOf Tryz.prog 68 = some false := by kernel_rfl
theorem cells_69 : Tryz.prog.cellsOf 69 = 1 := by kernel_rfl
theorem bytes_69 : Tryz.prog.bytesOf 69 = 8 := by kernel_rfl
theorem zero_69 : zeroOf Tryz.prog 69 = some (.map none) := by kernel_rfl
theorem agg_69 : aggOf Tryz.prog 69 = some false := by kernel_rfl
theorem cells_70 : Tryz.prog.cellsOf 70 = 1 := by kernel_rfl
theorem bytes_70 : Tryz.prog.bytesOf 70 = 8 := by kernel_rfl
theorem zero_70 : zeroOf Tryz.prog 70 = some (.nilFunc) := by kernel_rfl
theorem agg_70 : aggOf Tryz.prog 70 = some false := by kernel_rfl
theorem cells_71 : Tryz.prog.cellsOf 71 = 1 := by kernel_rfl
theorem bytes_71 : Tryz.prog.bytesOf 71 = 8 := by kernel_rfl
theorem zero_71 : zeroOf Tryz.prog 71 = some (.nilFunc) := by kernel_rfl
theorem agg_71 : aggOf Tryz.prog 71 = some false := by kernel_rfl
theorem cells_72 : Tryz.prog.cellsOf 72 = 1 := by kernel_rfl
theorem bytes_72 : Tryz.prog.bytesOf 72 = 8 := by kernel_rfl
theorem zero_72 : zeroOf Tryz.prog 72 = some (.nilFunc) := by kernel_rfl
theorem agg_72 : aggOf Tryz.prog 72 = some false := by kernel_rfl
theorem cells_73 : Tryz.prog.cellsOf 73 = 1 := by kernel_rfl
theorem bytes_73 : Tryz.prog.bytesOf 73 = 8 := by kernel_rfl
theorem zero_73 : zeroOf Tryz.prog 73 = some (.nilFunc) := by kernel_rfl
theorem agg_73 : aggOf Tryz.prog 73 = some false := by kernel_rfl
theorem cells_74 : Tryz.prog.cellsOf 74 = 1 := by kernel_rfl
theorem bytes_74 : Tryz.prog.bytesOf 74 = 8 := by kernel_rfl
theorem zero_74 : zeroOf Tryz.prog 74 = some (.nilFunc) := by kernel_rfl
theorem agg_74 : aggOf Tryz.prog 74 = some false := by kernel_rfl
theorem cells_75 : Tryz.prog.cellsOf 75 = 1 := by kernel_rfl
theorem bytes_75 : Tryz.prog.bytesOf 75 = 8 := by kernel_rfl
theorem zero_75 : zeroOf Tryz.prog 75 = some (.nilFunc) := by kernel_rfl
theorem agg_75 : aggOf Tryz.prog 75 = some false := by kernel_rfl
theorem cells_76 : Tryz.prog.cellsOf 76 = 1 := by kernel_rfl
theorem bytes_76 : Tryz.prog.bytesOf 76 = 8 := by kernel_rfl
theorem zero_76 : zeroOf Tryz.prog 76 = some (.nilFunc) := by kernel_rfl
theorem agg_76 : aggOf Tryz.prog 76 = some false := by kernel_rfl
theorem cells_77 : Tryz.prog.cellsOf 77 = 1 := by kernel_rfl
theorem bytes_77 : Tryz.prog.bytesOf 77 = 8 := by kernel_rfl
theorem zero_77 : zeroOf Tryz.prog 77 = some (.nilFunc) := by kernel_rfl
theorem agg_77 : aggOf Tryz.prog 77 = some false := by kernel_rfl
theorem cells_78 : Tryz.prog.cellsOf 78 = 1 := by kernel_rfl
theorem bytes_78 : Tryz.prog.bytesOf 78 = 8 := by kernel_rfl
theorem zero_78 : zeroOf Tryz.prog 78 = some (.nilFunc) := by kernel_rfl
theorem agg_78 : aggOf Tryz.prog 78 = some false := by kernel_rfl
theorem cells_79 : Tryz.prog.cellsOf 79 = 1 := by kernel_rfl
theorem bytes_79 : Tryz.prog.bytesOf 79 = 8 := by kernel_rfl
theorem zero_79 : zeroOf Tryz.prog 79 = some (.nilFunc) := by kernel_rfl
theorem agg_79 : aggOf Tryz.prog 79 = some false := by kernel_rfl
theorem cells_80 : Tryz.prog.cellsOf 80 = 1 := by kernel_rfl
theorem bytes_80 : Tryz.prog.bytesOf 80 = 8 := by kernel_rfl
theorem zero_80 : zeroOf Tryz.prog 80 = some (.nilFunc) := by kernel_rfl
theorem agg_80 : aggOf Tryz.prog 80 = some false := by kernel_rfl
theorem cells_81 : Tryz.prog.cellsOf 81 = 1 := by kernel_rfl
theorem bytes_81 : Tryz.prog.bytesOf 81 = 8 := by kernel_rfl
theorem zero_81 : zeroOf Tryz.prog 81 = some (.nilFunc) := by kernel_rfl
theorem agg_81 : aggOf Tryz.prog 81 = some false := by kernel_rfl
theorem cells_82 : Tryz.prog.cellsOf 82 = 1 := by kernel_rfl
theorem bytes_82 : Tryz.prog.bytesOf 82 = 8 := by kernel_rfl
theorem zero_82 : zeroOf Tryz.prog 82 = some (.map none) := by kernel_rfl
theorem agg_82 : aggOf Tryz.prog 82 = some false := by kernel_rfl
theorem cells_83 : Tryz.prog.cellsOf 83 = 1 := by kernel_rfl
theorem bytes_83 : Tryz.prog.bytesOf 83 = 8 := by kernel_rfl
theorem zero_83 : zeroOf Tryz.prog 83 = some (.nilFunc) := by kernel_rfl
theorem agg_83 : aggOf Tryz.prog 83 = some false := by kernel_rfl
theorem cells_84 : Tryz.prog.cellsOf 84 = 1 := by kernel_rfl
theorem bytes_84 : Tryz.prog.bytesOf 84 = 8 := by kernel_rfl
theorem zero_84 : zeroOf Tryz.prog 84 = some (.nilFunc) := by kernel_rfl
theorem agg_84 : aggOf Tryz.prog 84 = some false := by kernel_rfl
theorem cells_85 : Tryz.prog.cellsOf 85 = 1 := by kernel_rfl
theorem bytes_85 : Tryz.prog.bytesOf 85 = 8 := by kernel_rfl
theorem zero_85 : zeroOf Tryz.prog 85 = some (.nilFunc) := by kernel_rfl
theorem agg_85 : aggOf Tryz.prog 85 = some false := by kernel_rfl
theorem cells_86 : Tryz.prog.cellsOf 86 = 1 := by kernel_rfl
theorem bytes_86 : Tryz.prog.bytesOf 86 = 8 := by kernel_rfl
theorem zero_86 : zeroOf Tryz.prog 86 = some (.nilFunc) := by kernel_rfl
theorem agg_86 : aggOf Tryz.prog 86 = some false := by kernel_rfl
theorem cells_88 : Tryz.prog.cellsOf 88 = 1 := by kernel_rfl
theorem bytes_88 : Tryz.prog.bytesOf 88 = 8 := by kernel_rfl
theorem zero_88 : zeroOf Tryz.prog 88 = some (.nilFunc) := by kernel_rfl
theorem agg_88 : aggOf Tryz.prog 88 = some false := by kernel_rfl
theorem cells_89 : Tryz.prog.cellsOf 89 = 1 := by kernel_rfl
theorem bytes_89 : Tryz.prog.bytesOf 89 = 8 := by kernel_rfl
theorem zero_89 : zeroOf Tryz.prog 89 = some (.nilFunc) := by kernel_rfl
theorem agg_89 : aggOf Tryz.prog 89 = some false := by kernel_rfl
theorem cells_90 : Tryz.prog.cellsOf 90 = 3 := by kernel_rfl
theorem bytes_90 : Tryz.prog.bytesOf 90 = 48 := by kernel_rfl
theorem zero_90 : zeroOf Tryz.prog 90 = some (.agg #[.string ⟨#[]⟩, .string ⟨#[]⟩, .string ⟨#[]⟩]) := by kernel_rfl
theorem agg_90 : aggOf Tryz.prog 90 = some true := by kernel_rfl
theorem cells_91 : Tryz.prog.cellsOf 91 = 1 := by kernel_rfl
theorem bytes_91 : Tryz.prog.bytesOf 91 = 8 := by kernel_rfl
theorem zero_91 : zeroOf Tryz.prog 91 = some (.nilFunc) := by kernel_rfl
theorem agg_91 : aggOf Tryz.prog 91 = some false := by kernel_rfl
theorem cells_92 : Tryz.prog.cellsOf 92 = 1 := by kernel_rfl
theorem bytes_92 : Tryz.prog.bytesOf 92 = 8 := by kernel_rfl
theorem zero_92 : zeroOf Tryz.prog 92 = some (.nilFunc) := by kernel_rfl
theorem agg_92 : aggOf Tryz.prog 92 = some false := by kernel_rfl
theorem cells_93 : Tryz.prog.cellsOf 93 = 1 := by kernel_rfl
theorem bytes_93 : Tryz.prog.bytesOf 93 = 8 := by kernel_rfl
theorem zero_93 : zeroOf Tryz.prog 93 = some (.nilFunc) := by kernel_rfl
theorem agg_93 : aggOf Tryz.prog 93 = some false := by kernel_rfl
theorem cells_94 : Tryz.prog.cellsOf 94 = 1 := by kernel_rfl
theorem bytes_94 : Tryz.prog.bytesOf 94 = 8 := by kernel_rfl
theorem zero_94 : zeroOf Tryz.prog 94 = some (.pointer none) := by kernel_rfl
theorem agg_94 : aggOf Tryz.prog 94 = some false := by kernel_rfl
theorem cells_95 : Tryz.prog.cellsOf 95 = 1 := by kernel_rfl
theorem bytes_95 : Tryz.prog.bytesOf 95 = 8 := by kernel_rfl
theorem zero_95 : zeroOf Tryz.prog 95 = some (.nilFunc) := by kernel_rfl
theorem agg_95 : aggOf Tryz.prog 95 = some false := by kernel_rfl
theorem cells_96 : Tryz.prog.cellsOf 96 = 1 := by kernel_rfl
theorem bytes_96 : Tryz.prog.bytesOf 96 = 8 := by kernel_rfl
theorem zero_96 : zeroOf Tryz.prog 96 = some (.nilFunc) := by kernel_rfl
theorem agg_96 : aggOf Tryz.prog 96 = some false := by kernel_rfl
theorem cells_97 : Tryz.prog.cellsOf 97 = 1 := by kernel_rfl
theorem bytes_97 : Tryz.prog.bytesOf 97 = 8 := by kernel_rfl
theorem zero_97 : zeroOf Tryz.prog 97 = some (.nilFunc) := by kernel_rfl
theorem agg_97 : aggOf Tryz.prog 97 = some false := by kernel_rfl
theorem cells_98 : Tryz.prog.cellsOf 98 = 1 := by kernel_rfl
theorem bytes_98 : Tryz.prog.bytesOf 98 = 8 := by kernel_rfl
theorem zero_98 : zeroOf Tryz.prog 98 = some (.nilFunc) := by kernel_rfl
theorem agg_98 : aggOf Tryz.prog 98 = some false := by kernel_rfl
theorem cells_99 : Tryz.prog.cellsOf 99 = 1 := by kernel_rfl
theorem bytes_99 : Tryz.prog.bytesOf 99 = 8 := by kernel_rfl
theorem zero_99 : zeroOf Tryz.prog 99 = some (.nilFunc) := by kernel_rfl
theorem agg_99 : aggOf Tryz.prog 99 = some false := by kernel_rfl
theorem cells_100 : Tryz.prog.cellsOf 100 = 1 := by kernel_rfl
theorem bytes_100 : Tryz.prog.bytesOf 100 = 8 := by kernel_rfl
theorem zero_100 : zeroOf Tryz.prog 100 = some (.nilFunc) := by kernel_rfl
theorem agg_100 : aggOf Tryz.prog 100 = some false := by kernel_rfl
theorem cells_101 : Tryz.prog.cellsOf 101 = 1 := by kernel_rfl
theorem bytes_101 : Tryz.prog.bytesOf 101 = 24 := by kernel_rfl
theorem zero_101 : zeroOf Tryz.prog 101 = some (.slice none 0 0) := by kernel_rfl
theorem agg_101 : aggOf Tryz.prog 101 = some false := by kernel_rfl
theorem cells_102 : Tryz.prog.cellsOf 102 = 3 := by kernel_rfl
theorem bytes_102 : Tryz.prog.bytesOf 102 = 24 := by kernel_rfl
theorem zero_102 : zeroOf Tryz.prog 102 = some (.agg #[.int .i64 0, .int .i64 0, .int .i64 0]) := by kernel_rfl
theorem agg_102 : aggOf Tryz.prog 102 = some true := by kernel_rfl
theorem cells_103 : Tryz.prog.cellsOf 103 = 3 := by kernel_rfl
theorem bytes_103 : Tryz.prog.bytesOf 103 = 24 := by kernel_rfl
theorem zero_103 : zeroOf Tryz.prog 103 = some (.agg #[.int .i64 0, .int .i64 0, .int .i64 0]) := by kernel_rfl
theorem agg_103 : aggOf Tryz.prog 103 = some true := by kernel_rfl
theorem cells_105 : Tryz.prog.cellsOf 105 = 1 := by kernel_rfl
theorem bytes_105 : Tryz.prog.bytesOf 105 = 8 := by kernel_rfl
theorem zero_105 : zeroOf Tryz.prog 105 = some (.nilFunc) := by kernel_rfl
theorem agg_105 : aggOf Tryz.prog 105 = some false := by kernel_rfl
theorem cells_106 : Tryz.prog.cellsOf 106 = 1 := by kernel_rfl
theorem bytes_106 : Tryz.prog.bytesOf 106 = 8 := by kernel_rfl
theorem zero_106 : zeroOf Tryz.prog 106 = some (.nilFunc) := by kernel_rfl
theorem agg_106 : aggOf Tryz.prog 106 = some false := by kernel_rfl
theorem cells_107 : Tryz.prog.cellsOf 107 = 1 := by kernel_rfl
theorem bytes_107 : Tryz.prog.bytesOf 107 = 8 := by kernel_rfl
theorem zero_107 : zeroOf Tryz.prog 107 = some (.nilFunc) := by kernel_rfl
theorem agg_107 : aggOf Tryz.prog 107 = some false := by kernel_rfl
theorem cells_108 : Tryz.prog.cellsOf 108 = 1 := by kernel_rfl
theorem bytes_108 : Tryz.prog.bytesOf 108 = 8 := by kernel_rfl
theorem zero_108 : zeroOf Tryz.prog 108 = some (.nilFunc) := by kernel_rfl
theorem agg_108 : aggOf Tryz.prog 108 = some false := by kernel_rfl
theorem cells_109 : Tryz.prog.cellsOf 109 = 1 := by kernel_rfl
theorem bytes_109 : Tryz.prog.bytesOf 109 = 8 := by kernel_rfl
theorem zero_109 : zeroOf Tryz.prog 109 = some (.nilFunc) := by kernel_rfl
theorem agg_109 : aggOf Tryz.prog 109 = some false := by kernel_rfl
theorem cells_110 : Tryz.prog.cellsOf 110 = 1 := by kernel_rfl
theorem bytes_110 : Tryz.prog.bytesOf 110 = 8 := by kernel_rfl
theorem zero_110 : zeroOf Tryz.prog 110 = some (.int .u64 0) := by kernel_rfl
theorem agg_110 : aggOf Tryz.prog 110 = some false := by kernel_rfl
theorem cells_111 : Tryz.prog.cellsOf 111 = 1 := by kernel_rfl
theorem bytes_111 : Tryz.prog.bytesOf 111 = 8 := by kernel_rfl
theorem zero_111 : zeroOf Tryz.prog 111 = some (.nilFunc) := by kernel_rfl
theorem agg_111 : aggOf Tryz.prog 111 = some false := by kernel_rfl
theorem cells_112 : Tryz.prog.cellsOf 112 = 1 := by kernel_rfl
theorem bytes_112 : Tryz.prog.bytesOf 112 = 8 := by kernel_rfl
theorem zero_112 : zeroOf Tryz.prog 112 = some (.nilFunc) := by kernel_rfl
theorem agg_112 : aggOf Tryz.prog 112 = some false := by kernel_rfl
theorem cells_113 : Tryz.prog.cellsOf 113 = 5 := by kernel_rfl
theorem bytes_113 : Tryz.prog.bytesOf 113 = 16 := by kernel_rfl
theorem zero_113 : zeroOf Tryz.prog 113 = some (.agg #[.bool false, .bool false, .bool false, .bool false, .int .i64 0]) := by kernel_rfl
theorem agg_113 : aggOf Tryz.prog 113 = some true := by kernel_rfl
theorem cells_114 : Tryz.prog.cellsOf 114 = 5 := by kernel_rfl
theorem bytes_114 : Tryz.prog.bytesOf 114 = 16 := by kernel_rfl
theorem zero_114 : zeroOf Tryz.prog 114 = some (.agg #[.bool false, .bool false, .bool false, .bool false, .int .i64 0]) := by kernel_rfl
theorem agg_114 : aggOf Tryz.prog 114 = some true := by kernel_rfl
theorem cells_116 : Tryz.prog.cellsOf 116 = 1 := by kernel_rfl
theorem bytes_116 : Tryz.prog.bytesOf 116 = 8 := by kernel_rfl
theorem zero_116 : zeroOf Tryz.prog 116 = some (.nilFunc) := by kernel_rfl
theorem agg_116 : aggOf Tryz.prog 116 = some false := by kernel_rfl
theorem cells_117 : Tryz.prog.cellsOf 117 = 1 := by kernel_rfl
theorem bytes_117 : Tryz.prog.bytesOf 117 = 8 := by kernel_rfl
theorem zero_117 : zeroOf Tryz.prog 117 = some (.nilFunc) := by kernel_rfl
theorem agg_117 : aggOf Tryz.prog 117 = some false := by kernel_rfl
theorem cells_118 : Tryz.prog.cellsOf 118 = 1 := by kernel_rfl
theorem bytes_118 : Tryz.prog.bytesOf 118 = 8 := by kernel_rfl
theorem zero_118 : zeroOf Tryz.prog 118 = some (.nilFunc) := by kernel_rfl
theorem agg_118 : aggOf Tryz.prog 118 = some false := by kernel_rfl
theorem cells_119 : Tryz.prog.cellsOf 119 = 1 := by kernel_rfl
theorem bytes_119 : Tryz.prog.bytesOf 119 = 8 := by kernel_rfl
theorem zero_119 : zeroOf Tryz.prog 119 = some (.nilFunc) := by kernel_rfl
theorem agg_119 : aggOf Tryz.prog 119 = some false := by kernel_rfl
theorem cells_120 : Tryz.prog.cellsOf 120 = 1 := by kernel_rfl
theorem bytes_120 : Tryz.prog.bytesOf 120 = 8 := by kernel_rfl
theorem zero_120 : zeroOf Tryz.prog 120 = some (.nilFunc) := by kernel_rfl
theorem agg_120 : aggOf Tryz.prog 120 = some false := by kernel_rfl
theorem cells_121 : Tryz.prog.cellsOf 121 = 1 := by kernel_rfl
theorem bytes_121 : Tryz.prog.bytesOf 121 = 8 := by kernel_rfl
theorem zero_121 : zeroOf Tryz.prog 121 = some (.nilFunc) := by kernel_rfl
theorem agg_121 : aggOf Tryz.prog 121 = some false := by kernel_rfl
theorem cells_122 : Tryz.prog.cellsOf 122 = 1 := by kernel_rfl
theorem bytes_122 : Tryz.prog.bytesOf 122 = 8 := by kernel_rfl
theorem zero_122 : zeroOf Tryz.prog 122 = some (.nilFunc) := by kernel_rfl
theorem agg_122 : aggOf Tryz.prog 122 = some false := by kernel_rfl
theorem cells_124 : Tryz.prog.cellsOf 124 = 1 := by kernel_rfl
theorem bytes_124 : Tryz.prog.bytesOf 124 = 8 := by kernel_rfl
theorem zero_124 : zeroOf Tryz.prog 124 = some (.nilFunc) := by kernel_rfl
theorem agg_124 : aggOf Tryz.prog 124 = some false := by kernel_rfl
theorem cells_125 : Tryz.prog.cellsOf 125 = 1 := by kernel_rfl
theorem bytes_125 : Tryz.prog.bytesOf 125 = 8 := by kernel_rfl
theorem zero_125 : zeroOf Tryz.prog 125 = some (.nilFunc) := by kernel_rfl
theorem agg_125 : aggOf Tryz.prog 125 = some false := by kernel_rfl
theorem cells_126 : Tryz.prog.cellsOf 126 = 1 := by kernel_rfl
theorem bytes_126 : Tryz.prog.bytesOf 126 = 8 := by kernel_rfl
theorem zero_126 : zeroOf Tryz.prog 126 = some (.nilFunc) := by kernel_rfl
theorem agg_126 : aggOf Tryz.prog 126 = some false := by kernel_rfl
theorem cells_127 : Tryz.prog.cellsOf 127 = 1 := by kernel_rfl
theorem bytes_127 : Tryz.prog.bytesOf 127 = 8 := by kernel_rfl
theorem zero_127 : zeroOf Tryz.prog 127 = some (.nilFunc) := by kernel_rfl
theorem agg_127 : aggOf Tryz.prog 127 = some false := by kernel_rfl
theorem cells_128 : Tryz.prog.cellsOf 128 = 1 := by kernel_rfl
theorem bytes_128 : Tryz.prog.bytesOf 128 = 8 := by kernel_rfl
theorem zero_128 : zeroOf Tryz.prog 128 = some (.nilFunc) := by kernel_rfl
theorem agg_128 : aggOf Tryz.prog 128 = some false := by kernel_rfl
theorem cells_129 : Tryz.prog.cellsOf 129 = 1 := by kernel_rfl
theorem bytes_129 : Tryz.prog.bytesOf 129 = 8 := by kernel_rfl
theorem zero_129 : zeroOf Tryz.prog 129 = some (.nilFunc) := by kernel_rfl
theorem agg_129 : aggOf Tryz.prog 129 = some false := by kernel_rfl
theorem cells_130 : Tryz.prog.cellsOf 130 = 1 := by kernel_rfl
theorem bytes_130 : Tryz.prog.bytesOf 130 = 8 := by kernel_rfl
theorem zero_130 : zeroOf Tryz.prog 130 = some (.int .i64 0) := by kernel_rfl
theorem agg_130 : aggOf Tryz.prog 130 = some false := by kernel_rfl
theorem cells_132 : Tryz.prog.cellsOf 132 = 1 := by kernel_rfl
theorem bytes_132 : Tryz.prog.bytesOf 132 = 8 := by kernel_rfl
theorem zero_132 : zeroOf Tryz.prog 132 = some (.nilFunc) := by kernel_rfl
theorem agg_132 : aggOf Tryz.prog 132 = some false := by kernel_rfl
theorem cells_133 : Tryz.prog.cellsOf 133 = 1 := by kernel_rfl
theorem bytes_133 : Tryz.prog.bytesOf 133 = 8 := by kernel_rfl
theorem zero_133 : zeroOf Tryz.prog 133 = some (.nilFunc) := by kernel_rfl
theorem agg_133 : aggOf Tryz.prog 133 = some false := by kernel_rfl
theorem cells_134 : Tryz.prog.cellsOf 134 = 1 := by kernel_rfl
theorem bytes_134 : Tryz.prog.bytesOf 134 = 8 := by kernel_rfl
theorem zero_134 : zeroOf Tryz.prog 134 = some (.nilFunc) := by kernel_rfl
theorem agg_134 : aggOf Tryz.prog 134 = some false := by kernel_rfl
theorem cells_136 : Tryz.prog.cellsOf 136 = 1 := by kernel_rfl
theorem bytes_136 : Tryz.prog.bytesOf 136 = 8 := by kernel_rfl
theorem zero_136 : zeroOf Tryz.prog 136 = some (.nilFunc) := by kernel_rfl
theorem agg_136 : aggOf Tryz.prog 136 = some false := by kernel_rfl
theorem cells_137 : Tryz.prog.cellsOf 137 = 1 := by kernel_rfl
theorem bytes_137 : Tryz.prog.bytesOf 137 = 8 := by kernel_rfl
theorem zero_137 : zeroOf Tryz.prog 137 = some (.nilFunc) := by kernel_rfl
theorem agg_137 : aggOf Tryz.prog 137 = some false := by kernel_rfl
theorem cells_138 : Tryz.prog.cellsOf 138 = 1 := by kernel_rfl
theorem bytes_138 : Tryz.prog.bytesOf 138 = 4 := by kernel_rfl
theorem zero_138 : zeroOf Tryz.prog 138 = some (.int .u32 0) := by kernel_rfl
theorem agg_138 : aggOf Tryz.prog 138 = some false := by kernel_rfl
theorem cells_139 : Tryz.prog.cellsOf 139 = 1 := by kernel_rfl
theorem bytes_139 : Tryz.prog.bytesOf 139 = 8 := by kernel_rfl
theorem zero_139 : zeroOf Tryz.prog 139 = some (.nilFunc) := by kernel_rfl
theorem agg_139 : aggOf Tryz.prog 139 = some false := by kernel_rfl
theorem cells_140 : Tryz.prog.cellsOf 140 = 1 := by kernel_rfl
theorem bytes_140 : Tryz.prog.bytesOf 140 = 8 := by kernel_rfl
theorem zero_140 : zeroOf Tryz.prog 140 = some (.int .u64 0) := by kernel_rfl
theorem agg_140 : aggOf Tryz.prog 140 = some false := by kernel_rfl
theorem cells_141 : Tryz.prog.cellsOf 141 = 1 := by kernel_rfl
theorem bytes_141 : Tryz.prog.bytesOf 141 = 8 := by kernel_rfl
theorem zero_141 : zeroOf Tryz.prog 141 = some (.nilFunc) := by kernel_rfl
theorem agg_141 : aggOf Tryz.prog 141 = some false := by kernel_rfl
theorem cells_143 : Tryz.prog.cellsOf 143 = 1 := by kernel_rfl
theorem bytes_143 : Tryz.prog.bytesOf 143 = 8 := by kernel_rfl
theorem zero_143 : zeroOf Tryz.prog 143 = some (.nilFunc) := by kernel_rfl
theorem agg_143 : aggOf Tryz.prog 143 = some false := by kernel_rfl
theorem cells_144 : Tryz.prog.cellsOf 144 = 1 := by kernel_rfl
theorem bytes_144 : Tryz.prog.bytesOf 144 = 8 := by kernel_rfl
theorem zero_144 : zeroOf Tryz.prog 144 = some (.nilFunc) := by kernel_rfl
theorem agg_144 : aggOf Tryz.prog 144 = some false := by kernel_rfl
theorem cells_145 : Tryz.prog.cellsOf 145 = 1 := by kernel_rfl
theorem bytes_145 : Tryz.prog.bytesOf 145 = 8 := by kernel_rfl
theorem zero_145 : zeroOf Tryz.prog 145 = some (.int .u64 0) := by kernel_rfl
theorem agg_145 : aggOf Tryz.prog 145 = some false := by kernel_rfl
theorem cells_146 : Tryz.prog.cellsOf 146 = 1 := by kernel_rfl
theorem bytes_146 : Tryz.prog.bytesOf 146 = 8 := by kernel_rfl
theorem zero_146 : zeroOf Tryz.prog 146 = some (.nilFunc) := by kernel_rfl
theorem agg_146 : aggOf Tryz.prog 146 = some false := by kernel_rfl
theorem cells_147 : Tryz.prog.cellsOf 147 = 1 := by kernel_rfl
theorem bytes_147 : Tryz.prog.bytesOf 147 = 8 := by kernel_rfl
theorem zero_147 : zeroOf Tryz.prog 147 = some (.nilFunc) := by kernel_rfl
theorem agg_147 : aggOf Tryz.prog 147 = some false := by kernel_rfl
theorem cells_148 : Tryz.prog.cellsOf 148 = 1 := by kernel_rfl
theorem bytes_148 : Tryz.prog.bytesOf 148 = 8 := by kernel_rfl
theorem zero_148 : zeroOf Tryz.prog 148 = some (.nilFunc) := by kernel_rfl
theorem agg_148 : aggOf Tryz.prog 148 = some false := by kernel_rfl
theorem cells_149 : Tryz.prog.cellsOf 149 = 1 := by kernel_rfl
theorem bytes_149 : Tryz.prog.bytesOf 149 = 8 := by kernel_rfl
theorem zero_149 : zeroOf Tryz.prog 149 = some (.pointer none) := by kernel_rfl
theorem agg_149 : aggOf Tryz.prog 149 = some false := by kernel_rfl
theorem cells_150 : Tryz.prog.cellsOf 150 = 1 := by kernel_rfl
theorem bytes_150 : Tryz.prog.bytesOf 150 = 8 := by kernel_rfl
theorem zero_150 : zeroOf Tryz.prog 150 = some (.nilFunc) := by kernel_rfl
theorem agg_150 : aggOf Tryz.prog 150 = some false := by kernel_rfl
theorem cells_151 : Tryz.prog.cellsOf 151 = 1 := by kernel_rfl
theorem bytes_151 : Tryz.prog.bytesOf 151 = 8 := by kernel_rfl
theorem zero_151 : zeroOf Tryz.prog 151 = some (.nilFunc) := by kernel_rfl
theorem agg_151 : aggOf Tryz.prog 151 = some false := by kernel_rfl
theorem cells_152 : Tryz.prog.cellsOf 152 = 1 := by kernel_rfl
theorem bytes_152 : Tryz.prog.bytesOf 152 = 8 := by kernel_rfl
theorem zero_152 : zeroOf Tryz.prog 152 = some (.nilFunc) := by kernel_rfl
theorem agg_152 : aggOf Tryz.prog 152 = some false := by kernel_rfl
theorem cells_153 : Tryz.prog.cellsOf 153 = 24 := by kernel_rfl
theorem bytes_153 : Tryz.prog.bytesOf 153 = 24 := by kernel_rfl
theorem zero_153 : zeroOf Tryz.prog 153 = some (.agg #[.int .u8 0, .int .u8 0, .int .u8 0, .int .u8 0, .int .u8 0, .int .u8 0, .int .u8 0, .int .u8 0, .int .u8 0, .int .u8 0, .int .u8 0, .int .u8 0, .int .u8 0, .int .u8 0, .int .u8 0, .int .u8 0, .int .u8 0, .int .u8 0, .int .u8 0, .int .u8 0, .int .u8 0, .int .u8 0, .int .u8 0, .int .u8 0]) := by kernel_rfl
theorem agg_153 : aggOf Tryz.prog 153 = some true := by kernel_rfl
theorem cells_154 : Tryz.prog.cellsOf 154 = 1 := by kernel_rfl
theorem bytes_154 : Tryz.prog.bytesOf 154 = 8 := by kernel_rfl
theorem zero_154 : zeroOf Tryz.prog 154 = some (.nilFunc) := by kernel_rfl
theorem agg_154 : aggOf Tryz.prog 154 = some false := by kernel_rfl
theorem cells_156 : Tryz.prog.cellsOf 156 = 1 := by kernel_rfl
theorem bytes_156 : Tryz.prog.bytesOf 156 = 8 := by kernel_rfl
theorem zero_156 : zeroOf Tryz.prog 156 = some (.nilFunc) := by kernel_rfl
theorem agg_156 : aggOf Tryz.prog 156 = some false := by kernel_rfl
theorem cells_157 : Tryz.prog.cellsOf 157 = 1 := by kernel_rfl
theorem bytes_157 : Tryz.prog.bytesOf 157 = 8 := by kernel_rfl
theorem zero_157 : zeroOf Tryz.prog 157 = some (.pointer none) := by kernel_rfl
theorem agg_157 : aggOf Tryz.prog 157 = some false := by kernel_rfl
theorem cells_159 : Tryz.prog.cellsOf 159 = 1 := by kernel_rfl
theorem bytes_159 : Tryz.prog.bytesOf 159 = 8 := by kernel_rfl
theorem zero_159 : zeroOf Tryz.prog 159 = some (.nilFunc) := by kernel_rfl
theorem agg_159 : aggOf Tryz.prog 159 = some false := by kernel_rfl
theorem cells_161 : Tryz.prog.cellsOf 161 = 2 := by kernel_rfl
theorem bytes_161 : Tryz.prog.bytesOf 161 = 2 := by kernel_rfl
theorem zero_161 : zeroOf Tryz.prog 161 = some (.agg #[.int .u8 0, .int .u8 0]) := by kernel_rfl
theorem agg_161 : aggOf Tryz.prog 161 = some true := by kernel_rfl
theorem cells_162 : Tryz.prog.cellsOf 162 = 2 := by kernel_rfl
theorem bytes_162 : Tryz.prog.bytesOf 162 = 2 := by kernel_rfl
theorem zero_162 : zeroOf Tryz.prog 162 = some (.agg #[.int .u8 0, .int .u8 0]) := by kernel_rfl
theorem agg_162 : aggOf Tryz.prog 162 = some true := by kernel_rfl
theorem cells_163 : Tryz.prog.cellsOf 163 = 32 := by kernel_rfl
theorem bytes_163 : Tryz.prog.bytesOf 163 = 32 := by kernel_rfl
theorem zero_163 : zeroOf Tryz.prog 163 = some (.agg #[.int .u8 0, .int .u8 0, .int .u8 0, .int .u8 0, .int .u8 0, .int .u8 0, .int .u8 0, .int .u8 0, .int .u8 0, .int .u8 0, .int .u8 0, .int .u8 0, .int .u8 0, .int .u8 0, .int .u8 0, .int .u8 0, .int .u8 0, .int .u8 0, .int .u8 0, .int .u8 0, .int .u8 0, .int .u8 0, .int .u8 0, .int .u8 0, .int .u8 0, .int .u8 0, .int .u8 0, .int .u8 0, .int .u8 0, .int .u8 0, .int .u8 0, .int .u8 0]) := by kernel_rfl
theorem agg_163 : aggOf Tryz.prog 163 = some true := by kernel_rfl
theorem cells_165 : Tryz.prog.cellsOf 165 = 1 := by kernel_rfl
theorem bytes_165 : Tryz.prog.bytesOf 165 = 8 := by kernel_rfl
theorem zero_165 : zeroOf Tryz.prog 165 = some (.nilFunc) := by kernel_rfl
theorem agg_165 : aggOf Tryz.prog 165 = some false := by kernel_rfl
theorem cells_166 : Tryz.prog.cellsOf 166 = 1 := by kernel_rfl
theorem bytes_166 : Tryz.prog.bytesOf 166 = 8 := by kernel_rfl
theorem zero_166 : zeroOf Tryz.prog 166 = some (.nilFunc) := by kernel_rfl
theorem agg_166 : aggOf Tryz.prog 166 = some false := by kernel_rfl
theorem cells_167 : Tryz.prog.cellsOf 167 = 20 := by kernel_rfl
theorem bytes_167 : Tryz.prog.bytesOf 167 = 160 := by kernel_rfl
theorem zero_167 : zeroOf Tryz.prog 167 = some (.agg #[.int .u64 0, .int .u64 0, .int .u64 0, .int .u64 0, .int .u64 0, .int .u64 0, .int .u64 0, .int .u64 0, .int .u64 0, .int .u64 0, .int .u64 0, .int .u64 0, .int .u64 0, .int .u64 0, .int .u64 0, .int .u64 0, .int .u64 0, .int .u64 0, .int .u64 0, .int .u64 0]) := by kernel_rfl
theorem agg_167 : aggOf Tryz.prog 167 = some true := by kernel_rfl
theorem cells_169 : Tryz.prog.cellsOf 169 = 1 := by kernel_rfl
theorem bytes_169 : Tryz.prog.bytesOf 169 = 8 := by kernel_rfl
theorem zero_169 : zeroOf Tryz.prog 169 = some (.nilFunc) := by kernel_rfl
theorem agg_169 : aggOf Tryz.prog 169 = some false := by kernel_rfl
theorem cells_170 : Tryz.prog.cellsOf 170 = 32 := by kernel_rfl
theorem bytes_170 : Tryz.prog.bytesOf 170 = 32 := by kernel_rfl
theorem zero_170 : zeroOf Tryz.prog 170 = some (.agg #[.int .u8 0, .int .u8 0, .int .u8 0, .int .u8 0, .int .u8 0, .int .u8 0, .int .u8 0, .int .u8 0, .int .u8 0, .int .u8 0, .int .u8 0, .int .u8 0, .int .u8 0, .int .u8 0, .int .u8 0, .int .u8 0, .int .u8 0, .int .u8 0, .int .u8 0, .int .u8 0, .int .u8 0, .int .u8 0, .int .u8 0, .int .u8 0, .int .u8 0, .int .u8 0, .int .u8 0, .int .u8 0, .int .u8 0, .int .u8 0, .int .u8 0, .int .u8 0]) := by kernel_rfl
theorem agg_170 : aggOf Tryz.prog 170 = some true := by kernel_rfl
theorem cells_172 : Tryz.prog.cellsOf 172 = 4 := by kernel_rfl
theorem bytes_172 : Tryz.prog.bytesOf 172 = 40 := by kernel_rfl
theorem zero_172 : zeroOf Tryz.prog 172 = some (.agg #[.pointer none, .pointer none, .pointer none, .string ⟨#[]⟩]) := by kernel_rfl
theorem agg_172 : aggOf Tryz.prog 172 = some true := by kernel_rfl
theorem cells_173 : Tryz.prog.cellsOf 173 = 4 := by kernel_rfl
theorem bytes_173 : Tryz.prog.bytesOf 173 = 40 := by kernel_rfl
theorem zero_173 : zeroOf Tryz.prog 173 = some (.agg #[.pointer none, .pointer none, .pointer none, .string ⟨#[]⟩]) := by kernel_rfl
theorem agg_173 : aggOf Tryz.prog 173 = some true := by kernel_rfl
theorem cells_174 : Tryz.prog.cellsOf 174 = 0 := by kernel_rfl
theorem bytes_174 : Tryz.prog.bytesOf 174 = 0 := by kernel_rfl
theorem zero_174 : zeroOf Tryz.prog 174 = some (.agg #[]) := by kernel_rfl
theorem agg_174 : aggOf Tryz.prog 174 = some true := by kernel_rfl
theorem cells_175 : Tryz.prog.cellsOf 175 = 0 := by kernel_rfl
theorem bytes_175 : Tryz.prog.bytesOf 175 = 0 := by kernel_rfl
theorem zero_175 : zeroOf Tryz.prog 175 = some (.agg #[]) := by kernel_rfl
theorem agg_175 : aggOf Tryz.prog 175 = some true := by kernel_rfl
theorem cells_176 : Tryz.prog.cellsOf 176 = 0 := by kernel_rfl
theorem bytes_176 : Tryz.prog.bytesOf 176 = 0 := by kernel_rfl
theorem zero_176 : zeroOf Tryz.prog 176 = some (.agg #[]) := by kernel_rfl
theorem agg_176 : aggOf Tryz.prog 176 = some true := by kernel_rfl
theorem cells_177 : Tryz.prog.cellsOf 177 = 1 := by kernel_rfl
theorem bytes_177 : Tryz.prog.bytesOf 177 = 1 := by kernel_rfl
theorem zero_177 : zeroOf Tryz.prog 177 = some (.int .u8 0) := by kernel_rfl
theorem agg_177 : aggOf Tryz.prog 177 = some false := by kernel_rfl
theorem cells_178 : Tryz.prog.cellsOf 178 = 1 := by kernel_rfl
theorem bytes_178 : Tryz.prog.bytesOf 178 = 1 := by kernel_rfl
theorem zero_178 : zeroOf Tryz.prog 178 = some (.int .u8 0) := by kernel_rfl
theorem agg_178 : aggOf Tryz.prog 178 = some false := by kernel_rfl
theorem cells_179 : Tryz.prog.cellsOf 179 = 1 := by kernel_rfl
theorem bytes_179 : Tryz.prog.bytesOf 179 = 8 := by kernel_rfl
theorem zero_179 : zeroOf Tryz.prog 179 = some (.nilFunc) := by kernel_rfl
theorem agg_179 : aggOf Tryz.prog 179 = some false := by kernel_rfl
theorem cells_180 : Tryz.prog.cellsOf 180 = 1 := by kernel_rfl
theorem bytes_180 : Tryz.prog.bytesOf 180 = 4 := by kernel_rfl
theorem zero_180 : zeroOf Tryz.prog 180 = some (.int .i32 0) := by kernel_rfl
theorem agg_180 : aggOf Tryz.prog 180 = some false := by kernel_rfl
theorem cells_181 : Tryz.prog.cellsOf 181 = 1 := by kernel_rfl
theorem bytes_181 : Tryz.prog.bytesOf 181 = 4 := by kernel_rfl
theorem zero_181 : zeroOf Tryz.prog 181 = some (.int .i32 0) := by kernel_rfl
theorem agg_181 : aggOf Tryz.prog 181 = some false := by kernel_rfl
theorem cells_182 : Tryz.prog.cellsOf 182 = 11 := by kernel_rfl
theorem bytes_182 : Tryz.prog.bytesOf 182 = 48 := by kernel_rfl
theorem zero_182 : zeroOf Tryz.prog 182 = some (.agg #[.int .u64 0, .int .u64 0, .int .u32 0, .int .u8 0, .int .u8 0, .int .u8 0, .int .u8 0, .nilFunc, .pointer none, .int .i32 0, .int .i32 0]) := by kernel_rfl
theorem agg_182 : aggOf Tryz.prog 182 = some true := by kernel_rfl
theorem cells_183 : Tryz.prog.cellsOf 183 = 11 := by kernel_rfl
theorem bytes_183 : Tryz.prog.bytesOf 183 = 48 := by kernel_rfl
theorem zero_183 : zeroOf Tryz.prog 183 = some (.agg #[.int .u64 0, .int .u64 0, .int .u32 0, .int .u8 0, .int .u8 0, .int .u8 0, .int .u8 0, .nilFunc, .pointer none, .int .i32 0, .int .i32 0]) := by kernel_rfl
theorem agg_183 : aggOf Tryz.prog 183 = some true := by kernel_rfl
theorem mixed : Tryz.prog.follows .mixedOrders = true := by kernel_rfl
attribute [go_sem] zero_1 cells_1 bytes_1 agg_1 Tryz.underlying1 zero_2 cells_2 bytes_2 agg_2 Tryz.underlying2 zero_3 cells_3 bytes_3 agg_3 Tryz.underlying3 zero_4 cells_4 bytes_4 agg_4 Tryz.underlying4 zero_5 cells_5 bytes_5 agg_5 Tryz.underlying5 zero_6 cells_6 bytes_6 agg_6 Tryz.underlying6 zero_7 cells_7 bytes_7 agg_7 Tryz.underlying7 zero_8 cells_8 bytes_8 agg_8 Tryz.underlying8 zero_9 cells_9 bytes_9 agg_9 Tryz.underlying9 zero_10 cells_10 bytes_10 agg_10 Tryz.underlying10 zero_11 cells_11 bytes_11 agg_11 Tryz.underlying11 zero_12 cells_12 bytes_12 agg_12 Tryz.underlying12 zero_13 cells_13 bytes_13 agg_13 Tryz.underlying13 zero_14 cells_14 bytes_14 agg_14 Tryz.underlying14 zero_15 cells_15 bytes_15 agg_15 Tryz.underlying15 zero_16 cells_16 bytes_16 agg_16 Tryz.underlying16 zero_17 cells_17 bytes_17 agg_17 Tryz.underlying17 zero_18 cells_18 bytes_18 agg_18 Tryz.underlying18 zero_19 cells_19 bytes_19 agg_19 Tryz.underlying19 zero_20 cells_20 bytes_20 agg_20 Tryz.underlying20 zero_21 cells_21 bytes_21 agg_21 Tryz.underlying21 zero_22 cells_22 bytes_22 agg_22 Tryz.underlying22 zero_23 cells_23 bytes_23 agg_23 Tryz.underlying23 zero_24 cells_24 bytes_24 agg_24 Tryz.underlying24 zero_25 cells_25 bytes_25 agg_25 Tryz.underlying25 zero_26 cells_26 bytes_26 agg_26 Tryz.underlying26 zero_27 cells_27 bytes_27 agg_27 Tryz.underlying27 zero_28 cells_28 bytes_28 agg_28 Tryz.underlying28 zero_30 cells_30 bytes_30 agg_30 Tryz.underlying30 zero_31 cells_31 bytes_31 agg_31 Tryz.underlying31 zero_32 cells_32 bytes_32 agg_32 Tryz.underlying32 zero_33 cells_33 bytes_33 agg_33 Tryz.underlying33 zero_34 cells_34 bytes_34 agg_34 Tryz.underlying34 zero_35 cells_35 bytes_35 agg_35 Tryz.underlying35 zero_36 cells_36 bytes_36 agg_36 Tryz.underlying36 zero_37 cells_37 bytes_37 agg_37 Tryz.underlying37 zero_38 cells_38 bytes_38 agg_38 Tryz.underlying38 zero_39 cells_39 bytes_39 agg_39 Tryz.underlying39 zero_40 cells_40 bytes_40 agg_40 Tryz.underlying40 zero_41 cells_41 bytes_41 agg_41 Tryz.underlying41 zero_42 cells_42 bytes_42 agg_42 Tryz.underlying42 zero_43 cells_43 bytes_43 agg_43 Tryz.underlying43 zero_44 cells_44 bytes_44 agg_44 Tryz.underlying44 zero_45 cells_45 bytes_45 agg_45 Tryz.underlying45 zero_46 cells_46 bytes_46 agg_46 Tryz.underlying46 zero_48 cells_48 bytes_48 agg_48 Tryz.underlying48 zero_49 cells_49 bytes_49 agg_49 Tryz.underlying49 zero_50 cells_50 bytes_50 agg_50 Tryz.underlying50 zero_51 cells_51 bytes_51 agg_51 Tryz.underlying51 zero_52 cells_52 bytes_52 agg_52 Tryz.underlying52 zero_53 cells_53 bytes_53 agg_53 Tryz.underlying53 zero_54 cells_54 bytes_54 agg_54 Tryz.underlying54 zero_55 cells_55 bytes_55 agg_55 Tryz.underlying55 zero_56 cells_56 bytes_56 agg_56 Tryz.underlying56 zero_57 cells_57 bytes_57 agg_57 Tryz.underlying57 zero_58 cells_58 bytes_58 agg_58 Tryz.underlying58 zero_59 cells_59 bytes_59 agg_59 Tryz.underlying59 zero_60 cells_60 bytes_60 agg_60 Tryz.underlying60 zero_61 cells_61 bytes_61 agg_61 Tryz.underlying61 zero_62 cells_62 bytes_62 agg_62 Tryz.underlying62 zero_63 cells_63 bytes_63 agg_63 Tryz.underlying63 zero_65 cells_65 bytes_65 agg_65 Tryz.underlying65 zero_66 cells_66 bytes_66 agg_66 Tryz.underlying66 zero_67 cells_67 bytes_67 agg_67 Tryz.underlying67 zero_68 cells_68 bytes_68 agg_68 Tryz.underlying68 zero_69 cells_69 bytes_69 agg_69 Tryz.underlying69 zero_70 cells_70 bytes_70 agg_70 Tryz.underlying70 zero_71 cells_71 bytes_71 agg_71 Tryz.underlying71 zero_72 cells_72 bytes_72 agg_72 Tryz.underlying72 zero_73 cells_73 bytes_73 agg_73 Tryz.underlying73 zero_74 cells_74 bytes_74 agg_74 Tryz.underlying74 zero_75 cells_75 bytes_75 agg_75 Tryz.underlying75 zero_76 cells_76 bytes_76 agg_76 Tryz.underlying76 zero_77 cells_77 bytes_77 agg_77 Tryz.underlying77 zero_78 cells_78 bytes_78 agg_78 Tryz.underlying78 zero_79 cells_79 bytes_79 agg_79 Tryz.underlying79 zero_80 cells_80 bytes_80 agg_80 Tryz.underlying80 zero_81 cells_81 bytes_81 agg_81 Tryz.underlying81 zero_82 cells_82 bytes_82 agg_82 Tryz.underlying82 zero_83 cells_83 bytes_83 agg_83 Tryz.underlying83 zero_84 cells_84 bytes_84 agg_84 Tryz.underlying84 zero_85 cells_85 bytes_85 agg_85 Tryz.underlying85 zero_86 cells_86 bytes_86 agg_86 Tryz.underlying86 zero_88 cells_88 bytes_88 agg_88 Tryz.underlying88 zero_89 cells_89 bytes_89 agg_89 Tryz.underlying89 zero_90 cells_90 bytes_90 agg_90 Tryz.underlying90 zero_91 cells_91 bytes_91 agg_91 Tryz.underlying91 zero_92 cells_92 bytes_92 agg_92 Tryz.underlying92 zero_93 cells_93 bytes_93 agg_93 Tryz.underlying93 zero_94 cells_94 bytes_94 agg_94 Tryz.underlying94 zero_95 cells_95 bytes_95 agg_95 Tryz.underlying95 zero_96 cells_96 bytes_96 agg_96 Tryz.underlying96 zero_97 cells_97 bytes_97 agg_97 Tryz.underlying97 zero_98 cells_98 bytes_98 agg_98 Tryz.underlying98 zero_99 cells_99 bytes_99 agg_99 Tryz.underlying99 zero_100 cells_100 bytes_100 agg_100 Tryz.underlying100 zero_101 cells_101 bytes_101 agg_101 Tryz.underlying101 zero_102 cells_102 bytes_102 agg_102 Tryz.underlying102 zero_103 cells_103 bytes_103 agg_103 Tryz.underlying103 zero_105 cells_105 bytes_105 agg_105 Tryz.underlying105 zero_106 cells_106 bytes_106 agg_106 Tryz.underlying106 zero_107 cells_107 bytes_107 agg_107 Tryz.underlying107 zero_108 cells_108 bytes_108 agg_108 Tryz.underlying108 zero_109 cells_109 bytes_109 agg_109 Tryz.underlying109 zero_110 cells_110 bytes_110 agg_110 Tryz.underlying110 zero_111 cells_111 bytes_111 agg_111 Tryz.underlying111 zero_112 cells_112 bytes_112 agg_112 Tryz.underlying112 zero_113 cells_113 bytes_113 agg_113 Tryz.underlying113 zero_114 cells_114 bytes_114 agg_114 Tryz.underlying114 zero_116 cells_116 bytes_116 agg_116 Tryz.underlying116 zero_117 cells_117 bytes_117 agg_117 Tryz.underlying117 zero_118 cells_118 bytes_118 agg_118 Tryz.underlying118 zero_119 cells_119 bytes_119 agg_119 Tryz.underlying119 zero_120 cells_120 bytes_120 agg_120 Tryz.underlying120 zero_121 cells_121 bytes_121 agg_121 Tryz.underlying121 zero_122 cells_122 bytes_122 agg_122 Tryz.underlying122 zero_124 cells_124 bytes_124 agg_124 Tryz.underlying124 zero_125 cells_125 bytes_125 agg_125 Tryz.underlying125 zero_126 cells_126 bytes_126 agg_126 Tryz.underlying126 zero_127 cells_127 bytes_127 agg_127 Tryz.underlying127 zero_128 cells_128 bytes_128 agg_128 Tryz.underlying128 zero_129 cells_129 bytes_129 agg_129 Tryz.underlying129 zero_130 cells_130 bytes_130 agg_130 Tryz.underlying130 zero_132 cells_132 bytes_132 agg_132 Tryz.underlying132 zero_133 cells_133 bytes_133 agg_133 Tryz.underlying133 zero_134 cells_134 bytes_134 agg_134 Tryz.underlying134 zero_136 cells_136 bytes_136 agg_136 Tryz.underlying136 zero_137 cells_137 bytes_137 agg_137 Tryz.underlying137 zero_138 cells_138 bytes_138 agg_138 Tryz.underlying138 zero_139 cells_139 bytes_139 agg_139 Tryz.underlying139 zero_140 cells_140 bytes_140 agg_140 Tryz.underlying140 zero_141 cells_141 bytes_141 agg_141 Tryz.underlying141 zero_143 cells_143 bytes_143 agg_143 Tryz.underlying143 zero_144 cells_144 bytes_144 agg_144 Tryz.underlying144 zero_145 cells_145 bytes_145 agg_145 Tryz.underlying145 zero_146 cells_146 bytes_146 agg_146 Tryz.underlying146 zero_147 cells_147 bytes_147 agg_147 Tryz.underlying147 zero_148 cells_148 bytes_148 agg_148 Tryz.underlying148 zero_149 cells_149 bytes_149 agg_149 Tryz.underlying149 zero_150 cells_150 bytes_150 agg_150 Tryz.underlying150 zero_151 cells_151 bytes_151 agg_151 Tryz.underlying151 zero_152 cells_152 bytes_152 agg_152 Tryz.underlying152 zero_153 cells_153 bytes_153 agg_153 Tryz.underlying153 zero_154 cells_154 bytes_154 agg_154 Tryz.underlying154 zero_156 cells_156 bytes_156 agg_156 Tryz.underlying156 zero_157 cells_157 bytes_157 agg_157 Tryz.underlying157 zero_159 cells_159 bytes_159 agg_159 Tryz.underlying159 zero_161 cells_161 bytes_161 agg_161 Tryz.underlying161 zero_162 cells_162 bytes_162 agg_162 Tryz.underlying162 zero_163 cells_163 bytes_163 agg_163 Tryz.underlying163 zero_165 cells_165 bytes_165 agg_165 Tryz.underlying165 zero_166 cells_166 bytes_166 agg_166 Tryz.underlying166 zero_167 cells_167 bytes_167 agg_167 Tryz.underlying167 zero_169 cells_169 bytes_169 agg_169 Tryz.underlying169 zero_170 cells_170 bytes_170 agg_170 Tryz.underlying170 zero_172 cells_172 bytes_172 agg_172 Tryz.underlying172 zero_173 cells_173 bytes_173 agg_173 Tryz.underlying173 zero_174 cells_174 bytes_174 agg_174 Tryz.underlying174 zero_175 cells_175 bytes_175 agg_175 Tryz.underlying175 zero_176 cells_176 bytes_176 agg_176 Tryz.underlying176 zero_177 cells_177 bytes_177 agg_177 Tryz.underlying177 zero_178 cells_178 bytes_178 agg_178 Tryz.underlying178 zero_179 cells_179 bytes_179 agg_179 Tryz.underlying179 zero_180 cells_180 bytes_180 agg_180 Tryz.underlying180 zero_181 cells_181 bytes_181 agg_181 Tryz.underlying181 zero_182 cells_182 bytes_182 agg_182 Tryz.underlying182 zero_183 cells_183 bytes_183 agg_183 Tryz.underlying183 mixed
end Go.Proofs.YtnphcjpccieljaaGreatDoor
