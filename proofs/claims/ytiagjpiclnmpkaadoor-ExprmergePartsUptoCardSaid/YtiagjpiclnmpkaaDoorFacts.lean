/- Sizes and zero values of the types of the program. -/
import Derived.Test.YtiagjpiclnmpkaaDoorGTe
import Derived.Test.YtiagjpiclnmpkaaDoorProg
namespace Go.Proofs.YtiagjpiclnmpkaaDoor
open Go Go.RowKit

theorem cells_1 : Tryd.prog.cellsOf 1 = 1 := by kernel_rfl
theorem bytes_1 : Tryd.prog.bytesOf 1 = 8 := by kernel_rfl
theorem zero_1 : zeroOf Tryd.prog 1 = some (.nilFunc) := by kernel_rfl
theorem agg_1 : aggOf Tryd.prog 1 = some false := by kernel_rfl
theorem cells_2 : Tryd.prog.cellsOf 2 = 1 := by kernel_rfl
theorem bytes_2 : Tryd.prog.bytesOf 2 = 8 := by kernel_rfl
theorem zero_2 : zeroOf Tryd.prog 2 = some (.int .i64 0) := by kernel_rfl
theorem agg_2 : aggOf Tryd.prog 2 = some false := by kernel_rfl
theorem cells_3 : Tryd.prog.cellsOf 3 = 1 := by kernel_rfl
theorem bytes_3 : Tryd.prog.bytesOf 3 = 8 := by kernel_rfl
theorem zero_3 : zeroOf Tryd.prog 3 = some (.int .i64 0) := by kernel_rfl
theorem agg_3 : aggOf Tryd.prog 3 = some false := by kernel_rfl
theorem cells_4 : Tryd.prog.cellsOf 4 = 1 := by kernel_rfl
theorem bytes_4 : Tryd.prog.bytesOf 4 = 1 := by kernel_rfl
theorem zero_4 : zeroOf Tryd.prog 4 = some (.bool false) := by kernel_rfl
theorem agg_4 : aggOf Tryd.prog 4 = some false := by kernel_rfl
theorem cells_5 : Tryd.prog.cellsOf 5 = 1 := by kernel_rfl
theorem bytes_5 : Tryd.prog.bytesOf 5 = 1 := by kernel_rfl
theorem zero_5 : zeroOf Tryd.prog 5 = some (.int .u8 0) := by kernel_rfl
theorem agg_5 : aggOf Tryd.prog 5 = some false := by kernel_rfl
theorem cells_6 : Tryd.prog.cellsOf 6 = 1 := by kernel_rfl
theorem bytes_6 : Tryd.prog.bytesOf 6 = 1 := by kernel_rfl
theorem zero_6 : zeroOf Tryd.prog 6 = some (.int .u8 0) := by kernel_rfl
theorem agg_6 : aggOf Tryd.prog 6 = some false := by kernel_rfl
theorem cells_7 : Tryd.prog.cellsOf 7 = 4 := by kernel_rfl
theorem bytes_7 : Tryd.prog.bytesOf 7 = 24 := by kernel_rfl
theorem zero_7 : zeroOf Tryd.prog 7 = some (.agg #[.int .i64 0, .int .i64 0, .bool false, .int .u8 0]) := by kernel_rfl
theorem agg_7 : aggOf Tryd.prog 7 = some true := by kernel_rfl
theorem cells_8 : Tryd.prog.cellsOf 8 = 4 := by kernel_rfl
theorem bytes_8 : Tryd.prog.bytesOf 8 = 24 := by kernel_rfl
theorem zero_8 : zeroOf Tryd.prog 8 = some (.agg #[.int .i64 0, .int .i64 0, .bool false, .int .u8 0]) := by kernel_rfl
theorem agg_8 : aggOf Tryd.prog 8 = some true := by kernel_rfl
theorem cells_9 : Tryd.prog.cellsOf 9 = 1 := by kernel_rfl
theorem bytes_9 : Tryd.prog.bytesOf 9 = 16 := by kernel_rfl
theorem zero_9 : zeroOf Tryd.prog 9 = some (.string ⟨#[]⟩) := by kernel_rfl
theorem agg_9 : aggOf Tryd.prog 9 = some false := by kernel_rfl
theorem cells_10 : Tryd.prog.cellsOf 10 = 1 := by kernel_rfl
theorem bytes_10 : Tryd.prog.bytesOf 10 = 16 := by kernel_rfl
theorem zero_10 : zeroOf Tryd.prog 10 = some (.string ⟨#[]⟩) := by kernel_rfl
theorem agg_10 : aggOf Tryd.prog 10 = some false := by kernel_rfl
theorem cells_11 : Tryd.prog.cellsOf 11 = 1 := by kernel_rfl
theorem bytes_11 : Tryd.prog.bytesOf 11 = 16 := by kernel_rfl
theorem zero_11 : zeroOf Tryd.prog 11 = some (.string ⟨#[]⟩) := by kernel_rfl
theorem agg_11 : aggOf Tryd.prog 11 = some false := by kernel_rfl
theorem cells_12 : Tryd.prog.cellsOf 12 = 1 := by kernel_rfl
theorem bytes_12 : Tryd.prog.bytesOf 12 = 8 := by kernel_rfl
theorem zero_12 : zeroOf Tryd.prog 12 = some (.int .u64 0) := by kernel_rfl
theorem agg_12 : aggOf Tryd.prog 12 = some false := by kernel_rfl
theorem cells_13 : Tryd.prog.cellsOf 13 = 2 := by kernel_rfl
theorem bytes_13 : Tryd.prog.bytesOf 13 = 24 := by kernel_rfl
theorem zero_13 : zeroOf Tryd.prog 13 = some (.agg #[.string ⟨#[]⟩, .int .u64 0]) := by kernel_rfl
theorem agg_13 : aggOf Tryd.prog 13 = some true := by kernel_rfl
theorem cells_14 : Tryd.prog.cellsOf 14 = 2 := by kernel_rfl
theorem bytes_14 : Tryd.prog.bytesOf 14 = 24 := by kernel_rfl
theorem zero_14 : zeroOf Tryd.prog 14 = some (.agg #[.string ⟨#[]⟩, .int .u64 0]) := by kernel_rfl
theorem agg_14 : aggOf Tryd.prog 14 = some true := by kernel_rfl
theorem cells_15 : Tryd.prog.cellsOf 15 = 1 := by kernel_rfl
theorem bytes_15 : Tryd.prog.bytesOf 15 = 8 := by kernel_rfl
theorem zero_15 : zeroOf Tryd.prog 15 = some (.pointer none) := by kernel_rfl
theorem agg_15 : aggOf Tryd.prog 15 = some false := by kernel_rfl
theorem cells_16 : Tryd.prog.cellsOf 16 = 1 := by kernel_rfl
theorem bytes_16 : Tryd.prog.bytesOf 16 = 8 := by kernel_rfl
theorem zero_16 : zeroOf Tryd.prog 16 = some (.pointer none) := by kernel_rfl
theorem agg_16 : aggOf Tryd.prog 16 = some false := by kernel_rfl
theorem cells_17 : Tryd.prog.cellsOf 17 = 1 := by kernel_rfl
theorem bytes_17 : Tryd.prog.bytesOf 17 = 8 := by kernel_rfl
theorem zero_17 : zeroOf Tryd.prog 17 = some (.pointer none) := by kernel_rfl
theorem agg_17 : aggOf Tryd.prog 17 = some false := by kernel_rfl
theorem cells_18 : Tryd.prog.cellsOf 18 = 1 := by kernel_rfl
theorem bytes_18 : Tryd.prog.bytesOf 18 = 8 := by kernel_rfl
theorem zero_18 : zeroOf Tryd.prog 18 = some (.agg #[.pointer none]) := by kernel_rfl
theorem agg_18 : aggOf Tryd.prog 18 = some true := by kernel_rfl
theorem cells_19 : Tryd.prog.cellsOf 19 = 1 := by kernel_rfl
theorem bytes_19 : Tryd.prog.bytesOf 19 = 8 := by kernel_rfl
theorem zero_19 : zeroOf Tryd.prog 19 = some (.agg #[.pointer none]) := by kernel_rfl
theorem agg_19 : aggOf Tryd.prog 19 = some true := by kernel_rfl
theorem cells_20 : Tryd.prog.cellsOf 20 = 1 := by kernel_rfl
theorem bytes_20 : Tryd.prog.bytesOf 20 = 16 := by kernel_rfl
theorem zero_20 : zeroOf Tryd.prog 20 = some (.nilIface) := by kernel_rfl
theorem agg_20 : aggOf Tryd.prog 20 = some false := by kernel_rfl
theorem cells_21 : Tryd.prog.cellsOf 21 = 1 := by kernel_rfl
theorem bytes_21 : Tryd.prog.bytesOf 21 = 4 := by kernel_rfl
theorem zero_21 : zeroOf Tryd.prog 21 = some (.int .i32 0) := by kernel_rfl
theorem agg_21 : aggOf Tryd.prog 21 = some false := by kernel_rfl
theorem cells_22 : Tryd.prog.cellsOf 22 = 1 := by kernel_rfl
theorem bytes_22 : Tryd.prog.bytesOf 22 = 24 := by kernel_rfl
theorem zero_22 : zeroOf Tryd.prog 22 = some (.slice none 0 0) := by kernel_rfl
theorem agg_22 : aggOf Tryd.prog 22 = some false := by kernel_rfl
theorem cells_23 : Tryd.prog.cellsOf 23 = 6 := by kernel_rfl
theorem bytes_23 : Tryd.prog.bytesOf 23 = 80 := by kernel_rfl
theorem zero_23 : zeroOf Tryd.prog 23 = some (.agg #[.int .i64 0, .string ⟨#[]⟩, .string ⟨#[]⟩, .int .i64 0, .int .i64 0, .slice none 0 0]) := by kernel_rfl
theorem agg_23 : aggOf Tryd.prog 23 = some true := by kernel_rfl
theorem cells_24 : Tryd.prog.cellsOf 24 = 6 := by kernel_rfl
theorem bytes_24 : Tryd.prog.bytesOf 24 = 80 := by kernel_rfl
theorem zero_24 : zeroOf Tryd.prog 24 = some (.agg #[.int .i64 0, .string ⟨#[]⟩, .string ⟨#[]⟩, .int .i64 0, .int .i64 0, .slice none 0 0]) := by kernel_rfl
theorem agg_24 : aggOf Tryd.prog 24 = some true := by kernel_rfl
theorem cells_25 : Tryd.prog.cellsOf 25 = 1 := by kernel_rfl
theorem bytes_25 : Tryd.prog.bytesOf 25 = 8 := by kernel_rfl
theorem zero_25 : zeroOf Tryd.prog 25 = some (.nilFunc) := by kernel_rfl
theorem agg_25 : aggOf Tryd.prog 25 = some false := by kernel_rfl
theorem cells_26 : Tryd.prog.cellsOf 26 = 1 := by kernel_rfl
theorem bytes_26 : Tryd.prog.bytesOf 26 = 8 := by kernel_rfl
theorem zero_26 : zeroOf Tryd.prog 26 = some (.nilFunc) := by kernel_rfl
theorem agg_26 : aggOf Tryd.prog 26 = some false := by kernel_rfl
theorem cells_27 : Tryd.prog.cellsOf 27 = 1 := by kernel_rfl
theorem bytes_27 : Tryd.prog.bytesOf 27 = 8 := by kernel_rfl
theorem zero_27 : zeroOf Tryd.prog 27 = some (.int .i64 0) := by kernel_rfl
theorem agg_27 : aggOf Tryd.prog 27 = some false := by kernel_rfl
theorem cells_29 : Tryd.prog.cellsOf 29 = 1 := by kernel_rfl
theorem bytes_29 : Tryd.prog.bytesOf 29 = 8 := by kernel_rfl
theorem zero_29 : zeroOf Tryd.prog 29 = some (.nilFunc) := by kernel_rfl
theorem agg_29 : aggOf Tryd.prog 29 = some false := by kernel_rfl
theorem cells_30 : Tryd.prog.cellsOf 30 = 1 := by kernel_rfl
theorem bytes_30 : Tryd.prog.bytesOf 30 = 8 := by kernel_rfl
theorem zero_30 : zeroOf Tryd.prog 30 = some (.nilFunc) := by kernel_rfl
theorem agg_30 : aggOf Tryd.prog 30 = some false := by kernel_rfl
theorem cells_31 : Tryd.prog.cellsOf 31 = 1 := by kernel_rfl
theorem bytes_31 : Tryd.prog.bytesOf 31 = 8 := by kernel_rfl
theorem zero_31 : zeroOf Tryd.prog 31 = some (.nilFunc) := by kernel_rfl
theorem agg_31 : aggOf Tryd.prog 31 = some false := by kernel_rfl
theorem cells_32 : Tryd.prog.cellsOf 32 = 1 := by kernel_rfl
theorem bytes_32 : Tryd.prog.bytesOf 32 = 8 := by kernel_rfl
theorem zero_32 : zeroOf Tryd.prog 32 = some (.nilFunc) := by kernel_rfl
theorem agg_32 : aggOf Tryd.prog 32 = some false := by kernel_rfl
theorem cells_33 : Tryd.prog.cellsOf 33 = 1 := by kernel_rfl
theorem bytes_33 : Tryd.prog.bytesOf 33 = 8 := by kernel_rfl
theorem zero_33 : zeroOf Tryd.prog 33 = some (.nilFunc) := by kernel_rfl
theorem agg_33 : aggOf Tryd.prog 33 = some false := by kernel_rfl
theorem cells_34 : Tryd.prog.cellsOf 34 = 18 := by kernel_rfl
theorem bytes_34 : Tryd.prog.bytesOf 34 = 240 := by kernel_rfl
theorem zero_34 : zeroOf Tryd.prog 34 = some (.agg #[.int .i64 0, .string ⟨#[]⟩, .string ⟨#[]⟩, .int .i64 0, .int .i64 0, .slice none 0 0, .int .i64 0, .string ⟨#[]⟩, .string ⟨#[]⟩, .int .i64 0, .int .i64 0, .slice none 0 0, .int .i64 0, .string ⟨#[]⟩, .string ⟨#[]⟩, .int .i64 0, .int .i64 0, .slice none 0 0]) := by kernel_rfl
theorem agg_34 : aggOf Tryd.prog 34 = some true := by kernel_rfl
theorem cells_35 : Tryd.prog.cellsOf 35 = 18 := by kernel_rfl
theorem bytes_35 : Tryd.prog.bytesOf 35 = 240 := by kernel_rfl
theorem zero_35 : zeroOf Tryd.prog 35 = some (.agg #[.int .i64 0, .string ⟨#[]⟩, .string ⟨#[]⟩, .int .i64 0, .int .i64 0, .slice none 0 0, .int .i64 0, .string ⟨#[]⟩, .string ⟨#[]⟩, .int .i64 0, .int .i64 0, .slice none 0 0, .int .i64 0, .string ⟨#[]⟩, .string ⟨#[]⟩, .int .i64 0, .int .i64 0, .slice none 0 0]) := by kernel_rfl
theorem agg_35 : aggOf Tryd.prog 35 = some true := by kernel_rfl
theorem cells_36 : Tryd.prog.cellsOf 36 = 1 := by kernel_rfl
theorem bytes_36 : Tryd.prog.bytesOf 36 = 8 := by kernel_rfl
theorem zero_36 : zeroOf Tryd.prog 36 = some (.nilFunc) := by kernel_rfl
theorem agg_36 : aggOf Tryd.prog 36 = some false := by kernel_rfl
theorem cells_37 : Tryd.prog.cellsOf 37 = 1 := by kernel_rfl
theorem bytes_37 : Tryd.prog.bytesOf 37 = 8 := by kernel_rfl
theorem zero_37 : zeroOf Tryd.prog 37 = some (.nilFunc) := by kernel_rfl
theorem agg_37 : aggOf Tryd.prog 37 = some false := by kernel_rfl
theorem cells_38 : Tryd.prog.cellsOf 38 = 1 := by kernel_rfl
theorem bytes_38 : Tryd.prog.bytesOf 38 = 8 := by kernel_rfl
theorem zero_38 : zeroOf Tryd.prog 38 = some (.nilFunc) := by kernel_rfl
theorem agg_38 : aggOf Tryd.prog 38 = some false := by kernel_rfl
theorem cells_39 : Tryd.prog.cellsOf 39 = 1 := by kernel_rfl
theorem bytes_39 : Tryd.prog.bytesOf 39 = 8 := by kernel_rfl
theorem zero_39 : zeroOf Tryd.prog 39 = some (.nilFunc) := by kernel_rfl
theorem agg_39 : aggOf Tryd.prog 39 = some false := by kernel_rfl
theorem cells_40 : Tryd.prog.cellsOf 40 = 1 := by kernel_rfl
theorem bytes_40 : Tryd.prog.bytesOf 40 = 8 := by kernel_rfl
theorem zero_40 : zeroOf Tryd.prog 40 = some (.nilFunc) := by kernel_rfl
theorem agg_40 : aggOf Tryd.prog 40 = some false := by kernel_rfl
theorem cells_41 : Tryd.prog.cellsOf 41 = 1 := by kernel_rfl
theorem bytes_41 : Tryd.prog.bytesOf 41 = 8 := by kernel_rfl
theorem zero_41 : zeroOf Tryd.prog 41 = some (.nilFunc) := by kernel_rfl
theorem agg_41 : aggOf Tryd.prog 41 = some false := by kernel_rfl
theorem cells_42 : Tryd.prog.cellsOf 42 = 1 := by kernel_rfl
theorem bytes_42 : Tryd.prog.bytesOf 42 = 8 := by kernel_rfl
theorem zero_42 : zeroOf Tryd.prog 42 = some (.nilFunc) := by kernel_rfl
theorem agg_42 : aggOf Tryd.prog 42 = some false := by kernel_rfl
theorem cells_43 : Tryd.prog.cellsOf 43 = 1 := by kernel_rfl
theorem bytes_43 : Tryd.prog.bytesOf 43 = 8 := by kernel_rfl
theorem zero_43 : zeroOf Tryd.prog 43 = some (.nilFunc) := by kernel_rfl
theorem agg_43 : aggOf Tryd.prog 43 = some false := by kernel_rfl
theorem cells_44 : Tryd.prog.cellsOf 44 = 1 := by kernel_rfl
theorem bytes_44 : Tryd.prog.bytesOf 44 = 24 := by kernel_rfl
theorem zero_44 : zeroOf Tryd.prog 44 = some (.slice none 0 0) := by kernel_rfl
theorem agg_44 : aggOf Tryd.prog 44 = some false := by kernel_rfl
theorem cells_45 : Tryd.prog.cellsOf 45 = 1 := by kernel_rfl
theorem bytes_45 : Tryd.prog.bytesOf 45 = 8 := by kernel_rfl
theorem zero_45 : zeroOf Tryd.prog 45 = some (.nilFunc) := by kernel_rfl
theorem agg_45 : aggOf Tryd.prog 45 = some false := by kernel_rfl
theorem cells_46 : Tryd.prog.cellsOf 46 = 1 := by kernel_rfl
theorem bytes_46 : Tryd.prog.bytesOf 46 = 8 := by kernel_rfl
theorem zero_46 : zeroOf Tryd.prog 46 = some (.nilFunc) := by kernel_rfl
theorem agg_46 : aggOf Tryd.prog 46 = some false := by kernel_rfl
theorem cells_47 : Tryd.prog.cellsOf 47 = 1 := by kernel_rfl
theorem bytes_47 : Tryd.prog.bytesOf 47 = 8 := by kernel_rfl
theorem zero_47 : zeroOf Tryd.prog 47 = some (.nilFunc) := by kernel_rfl
theorem agg_47 : aggOf Tryd.prog 47 = some false := by kernel_rfl
theorem cells_48 : Tryd.prog.cellsOf 48 = 1 := by kernel_rfl
theorem bytes_48 : Tryd.prog.bytesOf 48 = 8 := by kernel_rfl
theorem zero_48 : zeroOf Tryd.prog 48 = some (.nilFunc) := by kernel_rfl
theorem agg_48 : aggOf Tryd.prog 48 = some false := by kernel_rfl
theorem cells_49 : Tryd.prog.cellsOf 49 = 1 := by kernel_rfl
theorem bytes_49 : Tryd.prog.bytesOf 49 = 8 := by kernel_rfl
theorem zero_49 : zeroOf Tryd.prog 49 = some (.nilFunc) := by kernel_rfl
theorem agg_49 : aggOf Tryd.prog 49 = some false := by kernel_rfl
theorem cells_50 : Tryd.prog.cellsOf 50 = 1 := by kernel_rfl
theorem bytes_50 : Tryd.prog.bytesOf 50 = 8 := by kernel_rfl
theorem zero_50 : zeroOf Tryd.prog 50 = some (.nilFunc) := by kernel_rfl
theorem agg_50 : aggOf Tryd.prog 50 = some false := by kernel_rfl
theorem cells_51 : Tryd.prog.cellsOf 51 = 1 := by kernel_rfl
theorem bytes_51 : Tryd.prog.bytesOf 51 = 8 := by kernel_rfl
theorem zero_51 : zeroOf Tryd.prog 51 = some (.nilFunc) := by kernel_rfl
theorem agg_51 : aggOf Tryd.prog 51 = some false := by kernel_rfl
theorem cells_53 : Tryd.prog.cellsOf 53 = 1 := by kernel_rfl
theorem bytes_53 : Tryd.prog.bytesOf 53 = 8 := by kernel_rfl
theorem zero_53 : zeroOf Tryd.prog 53 = some (.nilFunc) := by kernel_rfl
theorem agg_53 : aggOf Tryd.prog 53 = some false := by kernel_rfl
theorem cells_54 : Tryd.prog.cellsOf 54 = 1 := by kernel_rfl
theorem bytes_54 : Tryd.prog.bytesOf 54 = 8 := by kernel_rfl
theorem zero_54 : zeroOf Tryd.prog 54 = some (.nilFunc) := by kernel_rfl
theorem agg_54 : aggOf Tryd.prog 54 = some false := by kernel_rfl
theorem cells_55 : Tryd.prog.cellsOf 55 = 1 := by kernel_rfl
theorem bytes_55 : Tryd.prog.bytesOf 55 = 8 := by kernel_rfl
theorem zero_55 : zeroOf Tryd.prog 55 = some (.nilFunc) := by kernel_rfl
theorem agg_55 : aggOf Tryd.prog 55 = some false := by kernel_rfl
theorem cells_56 : Tryd.prog.cellsOf 56 = 1 := by kernel_rfl
theorem bytes_56 : Tryd.prog.bytesOf 56 = 8 := by kernel_rfl
theorem zero_56 : zeroOf Tryd.prog 56 = some (.nilFunc) := by kernel_rfl
theorem agg_56 : aggOf Tryd.prog 56 = some false := by kernel_rfl
theorem cells_57 : Tryd.prog.cellsOf 57 = 5 := by kernel_rfl
theorem bytes_57 : Tryd.prog.bytesOf 57 = 16 := by kernel_rfl
theorem zero_57 : zeroOf Tryd.prog 57 = some (.agg #[.bool false, .bool false, .bool false, .bool false, .int .i64 0]) := by kernel_rfl
theorem agg_57 : aggOf Tryd.prog 57 = some true := by kernel_rfl
theorem cells_58 : Tryd.prog.cellsOf 58 = 5 := by kernel_rfl
theorem bytes_58 : Tryd.prog.bytesOf 58 = 16 := by kernel_rfl
theorem zero_58 : zeroOf Tryd.prog 58 = some (.agg #[.bool false, .bool false, .bool false, .bool false, .int .i64 0]) := by kernel_rfl
theorem agg_58 : aggOf Tryd.prog 58 = some true := by kernel_rfl
theorem cells_60 : Tryd.prog.cellsOf 60 = 1 := by kernel_rfl
theorem bytes_60 : Tryd.prog.bytesOf 60 = 8 := by kernel_rfl
theorem zero_60 : zeroOf Tryd.prog 60 = some (.nilFunc) := by kernel_rfl
theorem agg_60 : aggOf Tryd.prog 60 = some false := by kernel_rfl
theorem cells_61 : Tryd.prog.cellsOf 61 = 1 := by kernel_rfl
theorem bytes_61 : Tryd.prog.bytesOf 61 = 8 := by kernel_rfl
theorem zero_61 : zeroOf Tryd.prog 61 = some (.nilFunc) := by kernel_rfl
theorem agg_61 : aggOf Tryd.prog 61 = some false := by kernel_rfl
theorem cells_62 : Tryd.prog.cellsOf 62 = 1 := by kernel_rfl
theorem bytes_62 : Tryd.prog.bytesOf 62 = 24 := by kernel_rfl
theorem zero_62 : zeroOf Tryd.prog 62 = some (.slice none 0 0) := by kernel_rfl
theorem agg_62 : aggOf Tryd.prog 62 = some false := by kernel_rfl
theorem cells_63 : Tryd.prog.cellsOf 63 = 1 := by kernel_rfl
theorem bytes_63 : Tryd.prog.bytesOf 63 = 8 := by kernel_rfl
theorem zero_63 : zeroOf Tryd.prog 63 = some (.nilFunc) := by kernel_rfl
theorem agg_63 : aggOf Tryd.prog 63 = some false := by kernel_rfl
theorem cells_64 : Tryd.prog.cellsOf 64 = 3 := by kernel_rfl
theorem bytes_64 : Tryd.prog.bytesOf 64 = 24 := by kernel_rfl
theorem zero_64 : zeroOf Tryd.prog 64 = some (.agg #[.int .i64 0, .int .i64 0, .int .i64 0]) := by kernel_rfl
theorem agg_64 : aggOf Tryd.prog 64 = some true := by kernel_rfl
theorem cells_65 : Tryd.prog.cellsOf 65 = 3 := by kernel_rfl
theorem bytes_65 : Tryd.prog.bytesOf 65 = 24 := by kernel_rfl
theorem zero_65 : zeroOf Tryd.prog 65 = some (.agg #[.int .i64 0, .int .i64 0, .int .i64 0]) := by kernel_rfl
theorem agg_65 : aggOf Tryd.prog 65 = some true := by kernel_rfl
theorem cells_67 : Tryd.prog.cellsOf 67 = 1 := by kernel_rfl
theorem bytes_67 : Tryd.prog.bytesOf 67 = 8 := by kernel_rfl
theorem zero_67 : zeroOf Tryd.prog 67 = some (.nilFunc) := by kernel_rfl
theorem agg_67 : aggOf Tryd.prog 67 = some false := by kernel_rfl
theorem cells_68 : Tryd.prog.cellsOf 68 = 1 := by kernel_rfl
theorem bytes_68 : Tryd.prog.bytesOf 68 = 8 := by kernel_rfl
theorem zero_68 : zeroOf Tryd.prog 68 = some (.nilFunc) := by kernel_rfl
theorem agg_68 : aggOf Tryd.prog 68 = some false := by kernel_rfl
theorem cells_69 : Tryd.prog.cellsOf 69 = 1 := by kernel_rfl
theorem bytes_69 : Tryd.prog.bytesOf 69 = 8 := by kernel_rfl
theorem zero_69 : zeroOf Tryd.prog 69 = some (.nilFunc) := by kernel_rfl
theorem agg_69 : aggOf Tryd.prog 69 = some false := by kernel_rfl
theorem cells_70 : Tryd.prog.cellsOf 70 = 1 := by kernel_rfl
theorem bytes_70 : Tryd.prog.bytesOf 70 = 8 := by kernel_rfl
theorem zero_70 : zeroOf Tryd.prog 70 = some (.nilFunc) := by kernel_rfl
theorem agg_70 : aggOf Tryd.prog 70 = some false := by kernel_rfl
theorem cells_71 : Tryd.prog.cellsOf 71 = 1 := by kernel_rfl
theorem bytes_71 : Tryd.prog.bytesOf 71 = 24 := by kernel_rfl
theorem zero_71 : zeroOf Tryd.prog 71 = some (.slice none 0 0) := by kernel_rfl
theorem agg_71 : aggOf Tryd.prog 71 = some false := by kernel_rfl
theorem cells_72 : Tryd.prog.cellsOf 72 = 1 := by kernel_rfl
theorem bytes_72 : Tryd.prog.bytesOf 72 = 8 := by kernel_rfl
theorem zero_72 : zeroOf Tryd.prog 72 = some (.nilFunc) := by kernel_rfl
theorem agg_72 : aggOf Tryd.prog 72 = some false := by kernel_rfl
theorem cells_73 : Tryd.prog.cellsOf 73 = 1 := by kernel_rfl
theorem bytes_73 : Tryd.prog.bytesOf 73 = 8 := by kernel_rfl
theorem zero_73 : zeroOf Tryd.prog 73 = some (.nilFunc) := by kernel_rfl
theorem agg_73 : aggOf Tryd.prog 73 = some false := by kernel_rfl
theorem cells_74 : Tryd.prog.cellsOf 74 = 1 := by kernel_rfl
theorem bytes_74 : Tryd.prog.bytesOf 74 = 8 := by kernel_rfl
theorem zero_74 : zeroOf Tryd.prog 74 = some (.nilFunc) := by kernel_rfl
theorem agg_74 : aggOf Tryd.prog 74 = some false := by kernel_rfl
theorem cells_75 : Tryd.prog.cellsOf 75 = 1 := by kernel_rfl
theorem bytes_75 : Tryd.prog.bytesOf 75 = 8 := by kernel_rfl
theorem zero_75 : zeroOf Tryd.prog 75 = some (.nilFunc) := by kernel_rfl
theorem agg_75 : aggOf Tryd.prog 75 = some false := by kernel_rfl
theorem cells_76 : Tryd.prog.cellsOf 76 = 1 := by kernel_rfl
theorem bytes_76 : Tryd.prog.bytesOf 76 = 8 := by kernel_rfl
theorem zero_76 : zeroOf Tryd.prog 76 = some (.nilFunc) := by kernel_rfl
theorem agg_76 : aggOf Tryd.prog 76 = some false := by kernel_rfl
theorem cells_77 : Tryd.prog.cellsOf 77 = 1 := by kernel_rfl
theorem bytes_77 : Tryd.prog.bytesOf 77 = 8 := by kernel_rfl
theorem zero_77 : zeroOf Tryd.prog 77 = some (.nilFunc) := by kernel_rfl
theorem agg_77 : aggOf Tryd.prog 77 = some false := by kernel_rfl
theorem cells_78 : Tryd.prog.cellsOf 78 = 1 := by kernel_rfl
theorem bytes_78 : Tryd.prog.bytesOf 78 = 8 := by kernel_rfl
theorem zero_78 : zeroOf Tryd.prog 78 = some (.nilFunc) := by kernel_rfl
theorem agg_78 : aggOf Tryd.prog 78 = some false := by kernel_rfl
theorem cells_79 : Tryd.prog.cellsOf 79 = 1 := by kernel_rfl
theorem bytes_79 : Tryd.prog.bytesOf 79 = 8 := by kernel_rfl
theorem zero_79 : zeroOf Tryd.prog 79 = some (.nilFunc) := by kernel_rfl
theorem agg_79 : aggOf Tryd.prog 79 = some false := by kernel_rfl
theorem cells_80 : Tryd.prog.cellsOf 80 = 1 := by kernel_rfl
theorem bytes_80 : Tryd.prog.bytesOf 80 = 8 := by kernel_rfl
theorem zero_80 : zeroOf Tryd.prog 80 = some (.nilFunc) := by kernel_rfl
theorem agg_80 : aggOf Tryd.prog 80 = some false := by kernel_rfl
theorem cells_81 : Tryd.prog.cellsOf 81 = 1 := by kernel_rfl
theorem bytes_81 : Tryd.prog.bytesOf 81 = 8 := by kernel_rfl
theorem zero_81 : zeroOf Tryd.prog 81 = some (.nilFunc) := by kernel_rfl
theorem agg_81 : aggOf Tryd.prog 81 = some false := by kernel_rfl
theorem cells_82 : Tryd.prog.cellsOf 82 = 1 := by kernel_rfl
theorem bytes_82 : Tryd.prog.bytesOf 82 = 8 := by kernel_rfl
theorem zero_82 : zeroOf Tryd.prog 82 = some (.nilFunc) := by kernel_rfl
theorem agg_82 : aggOf Tryd.prog 82 = some false := by kernel_rfl
theorem cells_84 : Tryd.prog.cellsOf 84 = 1 := by kernel_rfl
theorem bytes_84 : Tryd.prog.bytesOf 84 = 8 := by kernel_rfl
theorem zero_84 : zeroOf Tryd.prog 84 = some (.nilFunc) := by kernel_rfl
theorem agg_84 : aggOf Tryd.prog 84 = some false := by kernel_rfl
theorem cells_85 : Tryd.prog.cellsOf 85 = 1 := by kernel_rfl
theorem bytes_85 : Tryd.prog.bytesOf 85 = 8 := by kernel_rfl
theorem zero_85 : zeroOf Tryd.prog 85 = some (.nilFunc) := by kernel_rfl
theorem agg_85 : aggOf Tryd.prog 85 = some false := by kernel_rfl
theorem cells_86 : Tryd.prog.cellsOf 86 = 1 := by kernel_rfl
theorem bytes_86 : Tryd.prog.bytesOf 86 = 8 := by kernel_rfl
theorem zero_86 : zeroOf Tryd.prog 86 = some (.nilFunc) := by kernel_rfl
theorem agg_86 : aggOf Tryd.prog 86 = some false := by kernel_rfl
theorem cells_87 : Tryd.prog.cellsOf 87 = 1 := by kernel_rfl
theorem bytes_87 : Tryd.prog.bytesOf 87 = 8 := by kernel_rfl
theorem zero_87 : zeroOf Tryd.prog 87 = some (.int .u64 0) := by kernel_rfl
theorem agg_87 : aggOf Tryd.prog 87 = some false := by kernel_rfl
theorem cells_88 : Tryd.prog.cellsOf 88 = 1 := by kernel_rfl
theorem bytes_88 : Tryd.prog.bytesOf 88 = 4 := by kernel_rfl
theorem zero_88 : zeroOf Tryd.prog 88 = some (.int .u32 0) := by kernel_rfl
theorem agg_88 : aggOf Tryd.prog 88 = some false := by kernel_rfl
theorem cells_90 : Tryd.prog.cellsOf 90 = 1 := by kernel_rfl
theorem bytes_90 : Tryd.prog.bytesOf 90 = 8 := by kernel_rfl
theorem zero_90 : zeroOf Tryd.prog 90 = some (.nilFunc) := by kernel_rfl
theorem agg_90 : aggOf Tryd.prog 90 = some false := by kernel_rfl
theorem cells_92 : Tryd.prog.cellsOf 92 = 2 := by kernel_rfl
theorem bytes_92 : Tryd.prog.bytesOf 92 = 2 := by kernel_rfl
theorem zero_92 : zeroOf Tryd.prog 92 = some (.agg #[.int .u8 0, .int .u8 0]) := by kernel_rfl
theorem agg_92 : aggOf Tryd.prog 92 = some true := by kernel_rfl
theorem cells_93 : Tryd.prog.cellsOf 93 = 2 := by kernel_rfl
theorem bytes_93 : Tryd.prog.bytesOf 93 = 2 := by kernel_rfl
theorem zero_93 : zeroOf Tryd.prog 93 = some (.agg #[.int .u8 0, .int .u8 0]) := by kernel_rfl
theorem agg_93 : aggOf Tryd.prog 93 = some true := by kernel_rfl
theorem cells_94 : Tryd.prog.cellsOf 94 = 32 := by kernel_rfl
theorem bytes_94 : Tryd.prog.bytesOf 94 = 32 := by kernel_rfl
theorem zero_94 : zeroOf Tryd.prog 94 = some (.agg #[.int .u8 0, .int .u8 0, .int .u8 0, .int .u8 0, .int .u8 0, .int .u8 0, .int .u8 0, .int .u8 0, .int .u8 0, .int .u8 0, .int .u8 0, .int .u8 0, .int .u8 0, .int .u8 0, .int .u8 0, .int .u8 0, .int .u8 0, .int .u8 0, .int .u8 0, .int .u8 0, .int .u8 0, .int .u8 0, .int .u8 0, .int .u8 0, .int .u8 0, .int .u8 0, .int .u8 0, .int .u8 0, .int .u8 0, .int .u8 0, .int .u8 0, .int .u8 0]) := by kernel_rfl
theorem agg_94 : aggOf Tryd.prog 94 = some true := by kernel_rfl
theorem cells_95 : Tryd.prog.cellsOf 95 = 1 := by kernel_rfl
theorem bytes_95 : Tryd.prog.bytesOf 95 = 8 := by kernel_rfl
theorem zero_95 : zeroOf Tryd.prog 95 = some (.nilFunc) := by kernel_rfl
theorem agg_95 : aggOf Tryd.prog 95 = some false := by kernel_rfl
theorem cells_96 : Tryd.prog.cellsOf 96 = 4 := by kernel_rfl
theorem bytes_96 : Tryd.prog.bytesOf 96 = 40 := by kernel_rfl
theorem zero_96 : zeroOf Tryd.prog 96 = some (.agg #[.pointer none, .pointer none, .pointer none, .string ⟨#[]⟩]) := by kernel_rfl
theorem agg_96 : aggOf Tryd.prog 96 = some true := by kernel_rfl
theorem cells_97 : Tryd.prog.cellsOf 97 = 4 := by kernel_rfl
theorem bytes_97 : Tryd.prog.bytesOf 97 = 40 := by kernel_rfl
theorem zero_97 : zeroOf Tryd.prog 97 = some (.agg #[.pointer none, .pointer none, .pointer none, .string ⟨#[]⟩]) := by kernel_rfl
theorem agg_97 : aggOf Tryd.prog 97 = some true := by kernel_rfl
theorem cells_98 : Tryd.prog.cellsOf 98 = 0 := by kernel_rfl
theorem bytes_98 : Tryd.prog.bytesOf 98 = 0 := by kernel_rfl
theorem zero_98 : zeroOf Tryd.prog 98 = some (.agg #[]) := by kernel_rfl
theorem agg_98 : aggOf Tryd.prog 98 = some true := by kernel_rfl
theorem cells_99 : Tryd.prog.cellsOf 99 = 0 := by kernel_rfl
theorem bytes_99 : Tryd.prog.bytesOf 99 = 0 := by kernel_rfl
theorem zero_99 : zeroOf Tryd.prog 99 = some (.agg #[]) := by kernel_rfl
theorem agg_99 : aggOf Tryd.prog 99 = some true := by kernel_rfl
theorem cells_100 : Tryd.prog.cellsOf 100 = 0 := by kernel_rfl
theorem bytes_100 : Tryd.prog.bytesOf 100 = 0 := by kernel_rfl
theorem zero_100 : zeroOf Tryd.prog 100 = some (.agg #[]) := by kernel_rfl
theorem agg_100 : aggOf Tryd.prog 100 = some true := by kernel_rfl
theorem cells_101 : Tryd.prog.cellsOf 101 = 1 := by kernel_rfl
theorem bytes_101 : Tryd.prog.bytesOf 101 = 8 := by kernel_rfl
theorem zero_101 : zeroOf Tryd.prog 101 = some (.nilFunc) := by kernel_rfl
theorem agg_101 : aggOf Tryd.prog 101 = some false := by kernel_rfl
theorem cells_102 : Tryd.prog.cellsOf 102 = 1 := by kernel_rfl
theorem bytes_102 : Tryd.prog.bytesOf 102 = 1 := by kernel_rfl
theorem zero_102 : zeroOf Tryd.prog 102 = some (.int .u8 0) := by kernel_rfl
theorem agg_102 : aggOf Tryd.prog 102 = some false := by kernel_rfl
theorem cells_103 : Tryd.prog.cellsOf 103 = 1 := by kernel_rfl
theorem bytes_103 : Tryd.prog.bytesOf 103 = 1 := by kernel_rfl
theorem zero_103 : zeroOf Tryd.prog 103 = some (.int .u8 0) := by kernel_rfl
theorem agg_103 : aggOf Tryd.prog 103 = some false := by kernel_rfl
theorem cells_104 : Tryd.prog.cellsOf 104 = 1 := by kernel_rfl
theorem bytes_104 : Tryd.prog.bytesOf 104 = 8 := by kernel_rfl
theorem zero_104 : zeroOf Tryd.prog 104 = some (.nilFunc) := by kernel_rfl
theorem agg_104 : aggOf Tryd.prog 104 = some false := by kernel_rfl
theorem cells_105 : Tryd.prog.cellsOf 105 = 1 := by kernel_rfl
theorem bytes_105 : Tryd.prog.bytesOf 105 = 8 := by kernel_rfl
theorem zero_105 : zeroOf Tryd.prog 105 = some (.pointer none) := by kernel_rfl
theorem agg_105 : aggOf Tryd.prog 105 = some false := by kernel_rfl
theorem cells_106 : Tryd.prog.cellsOf 106 = 1 := by kernel_rfl
theorem bytes_106 : Tryd.prog.bytesOf 106 = 4 := by kernel_rfl
theorem zero_106 : zeroOf Tryd.prog 106 = some (.int .i32 0) := by kernel_rfl
theorem agg_106 : aggOf Tryd.prog 106 = some false := by kernel_rfl
theorem cells_107 : Tryd.prog.cellsOf 107 = 1 := by kernel_rfl
theorem bytes_107 : Tryd.prog.bytesOf 107 = 4 := by kernel_rfl
theorem zero_107 : zeroOf Tryd.prog 107 = some (.int .i32 0) := by kernel_rfl
theorem agg_107 : aggOf Tryd.prog 107 = some false := by kernel_rfl
theorem cells_108 : Tryd.prog.cellsOf 108 = 11 := by kernel_rfl
theorem bytes_108 : Tryd.prog.bytesOf 108 = 48 := by kernel_rfl
theorem zero_108 : zeroOf Tryd.prog 108 = some (.agg #[.int .u64 0, .int .u64 0, .int .u32 0, .int .u8 0, .int .u8 0, .int .u8 0, .int .u8 0, .nilFunc, .pointer none, .int .i32 0, .int .i32 0]) := by kernel_rfl
theorem agg_108 : aggOf Tryd.prog 108 = some true := by kernel_rfl
theorem cells_109 : Tryd.prog.cellsOf 109 = 11 := by kernel_rfl
theorem bytes_109 : Tryd.prog.bytesOf 109 = 48 := by kernel_rfl
theorem zero_109 : zeroOf Tryd.prog 109 = some (.agg #[.int .u64 0, .int .u64 0, .int .u32 0, .int .u8 0, .int .u8 0, .int .u8 0, .int .u8 0, .nilFunc, .pointer none, .int .i32 0, .int .i32 0]) := by kernel_rfl
theorem agg_109 : aggOf Tryd.prog 109 = some true := by kernel_rfl
theorem mixed : Tryd.prog.follows .mixedOrders = true := by kernel_rfl
attribute [go_sem] zero_1 cells_1 bytes_1 agg_1 Tryd.underlying1 zero_2 cells_2 bytes_2 agg_2 Tryd.underlying2 zero_3 cells_3 bytes_3 agg_3 Tryd.underlying3 zero_4 cells_4 bytes_4 agg_4 Tryd.underlying4 zero_5 cells_5 bytes_5 agg_5 Tryd.underlying5 zero_6 cells_6 bytes_6 agg_6 Tryd.underlying6 zero_7 cells_7 bytes_7 agg_7 Tryd.underlying7 zero_8 cells_8 bytes_8 agg_8 Tryd.underlying8 zero_9 cells_9 bytes_9 agg_9 Tryd.underlying9 zero_10 cells_10 bytes_10 agg_10 Tryd.underlying10 zero_11 cells_11 bytes_11 agg_11 Tryd.underlying11 zero_12 cells_12 bytes_12 agg_12 Tryd.underlying12 zero_13 cells_13 bytes_13 agg_13 Tryd.underlying13 zero_14 cells_14 bytes_14 agg_14 Tryd.underlying14 zero_15 cells_15 bytes_15 agg_15 Tryd.underlying15 zero_16 cells_16 bytes_16 agg_16 Tryd.underlying16 zero_17 cells_17 bytes_17 agg_17 Tryd.underlying17 zero_18 cells_18 bytes_18 agg_18 Tryd.underlying18 zero_19 cells_19 bytes_19 agg_19 Tryd.underlying19 zero_20 cells_20 bytes_20 agg_20 Tryd.underlying20 zero_21 cells_21 bytes_21 agg_21 Tryd.underlying21 zero_22 cells_22 bytes_22 agg_22 Tryd.underlying22 zero_23 cells_23 bytes_23 agg_23 Tryd.underlying23 zero_24 cells_24 bytes_24 agg_24 Tryd.underlying24 zero_25 cells_25 bytes_25 agg_25 Tryd.underlying25 zero_26 cells_26 bytes_26 agg_26 Tryd.underlying26 zero_27 cells_27 bytes_27 agg_27 Tryd.underlying27 zero_29 cells_29 bytes_29 agg_29 Tryd.underlying29 zero_30 cells_30 bytes_30 agg_30 Tryd.underlying30 zero_31 cells_31 bytes_31 agg_31 Tryd.underlying31 zero_32 cells_32 bytes_32 agg_32 Tryd.underlying32 zero_33 cells_33 bytes_33 agg_33 Tryd.underlying33 zero_34 cells_34 bytes_34 agg_34 Tryd.underlying34 zero_35 cells_35 bytes_35 agg_35 Tryd.underlying35 zero_36 cells_36 bytes_36 agg_36 Tryd.underlying36 zero_37 cells_37 bytes_37 agg_37 Tryd.underlying37 zero_38 cells_38 bytes_38 agg_38 Tryd.underlying38 zero_39 cells_39 bytes_39 agg_39 Tryd.underlying39 zero_40 cells_40 bytes_40 agg_40 Tryd.underlying40 zero_41 cells_41 bytes_41 agg_41 Tryd.underlying41 zero_42 cells_42 bytes_42 agg_42 Tryd.underlying42 zero_43 cells_43 bytes_43 agg_43 Tryd.underlying43 zero_44 cells_44 bytes_44 agg_44 Tryd.underlying44 zero_45 cells_45 bytes_45 agg_45 Tryd.underlying45 zero_46 cells_46 bytes_46 agg_46 Tryd.underlying46 zero_47 cells_47 bytes_47 agg_47 Tryd.underlying47 zero_48 cells_48 bytes_48 agg_48 Tryd.underlying48 zero_49 cells_49 bytes_49 agg_49 Tryd.underlying49 zero_50 cells_50 bytes_50 agg_50 Tryd.underlying50 zero_51 cells_51 bytes_51 agg_51 Tryd.underlying51 zero_53 cells_53 bytes_53 agg_53 Tryd.underlying53 zero_54 cells_54 bytes_54 agg_54 Tryd.underlying54 zero_55 cells_55 bytes_55 agg_55 Tryd.underlying55 zero_56 cells_56 bytes_56 agg_56 Tryd.underlying56 zero_57 cells_57 bytes_57 agg_57 Tryd.underlying57 zero_58 cells_58 bytes_58 agg_58 Tryd.underlying58 zero_60 cells_60 bytes_60 agg_60 Tryd.underlying60 zero_61 cells_61 bytes_61 agg_61 Tryd.underlying61 zero_62 cells_62 bytes_62 agg_62 Tryd.underlying62 zero_63 cells_63 bytes_63 agg_63 Tryd.underlying63 zero_64 cells_64 bytes_64 agg_64 Tryd.underlying64 zero_65 cells_65 bytes_65 agg_65 Tryd.underlying65 zero_67 cells_67 bytes_67 agg_67 Tryd.underlying67 zero_68 cells_68 bytes_68 agg_68 Tryd.underlying68 zero_69 cells_69 bytes_69 agg_69 Tryd.underlying69 zero_70 cells_70 bytes_70 agg_70 Tryd.underlying70 zero_71 cells_71 bytes_71 agg_71 Tryd.underlying71 zero_72 cells_72 bytes_72 agg_72 Tryd.underlying72 zero_73 cells_73 bytes_73 agg_73 Tryd.underlying73 zero_74 cells_74 bytes_74 agg_74 Tryd.underlying74 zero_75 cells_75 bytes_75 agg_75 Tryd.underlying75 zero_76 cells_76 bytes_76 agg_76 Tryd.underlying76 zero_77 cells_77 bytes_77 agg_77 Tryd.underlying77 zero_78 cells_78 bytes_78 agg_78 Tryd.underlying78 zero_79 cells_79 bytes_79 agg_79 Tryd.underlying79 zero_80 cells_80 bytes_80 agg_80 Tryd.underlying80 zero_81 cells_81 bytes_81 agg_81 Tryd.underlying81 zero_82 cells_82 bytes_82 agg_82 Tryd.underlying82 zero_84 cells_84 bytes_84 agg_84 Tryd.underlying84 zero_85 cells_85 bytes_85 agg_85 Tryd.underlying85 zero_86 cells_86 bytes_86 agg_86 Tryd.underlying86 zero_87 cells_87 bytes_87 agg_87 Tryd.underlying87 zero_88 cells_88 bytes_88 agg_88 Tryd.underlying88 zero_90 cells_90 bytes_90 agg_90 Tryd.underlying90 zero_92 cells_92 bytes_92 agg_92 Tryd.underlying92 zero_93 cells_93 bytes_93 agg_93 Tryd.underlying93 zero_94 cells_94 bytes_94 agg_94 Tryd.underlying94 zero_95 cells_95 bytes_95 agg_95 Tryd.underlying95 zero_96 cells_96 bytes_96 agg_96 Tryd.underlying96 zero_97 cells_97 bytes_97 agg_97 Tryd.underlying97 zero_98 cells_98 bytes_98 agg_98 Tryd.underlying98 zero_99 cells_99 bytes_99 agg_99 Tryd.underlying99 zero_100 cells_100 bytes_100 agg_100 Tryd.underlying100 zero_101 cells_101 bytes_101 agg_101 Tryd.underlying101 zero_102 cells_102 bytes_102 agg_102 Tryd.underlying102 zero_103 cells_103 bytes_103 agg_103 Tryd.underlying103 zero_104 cells_104 bytes_104 agg_104 Tryd.underlying104 zero_105 cells_105 bytes_105 agg_105 Tryd.underlying105 zero_106 cells_106 bytes_106 agg_106 Tryd.underlying106 zero_107 cells_107 bytes_107 agg_107 Tryd.underlying107 zero_108 cells_108 bytes_108 agg_108 Tryd.underlying108 zero_109 cells_109 bytes_109 agg_109 Tryd.underlying109 mixed
end Go.Proofs.YtiagjpiclnmpkaaDoor
