/- Closed facts on the program: sizes, zero values and fields of its types; which functions have a body. -/
import Derived.Test.YtbkhejfnhbjhpaaFlMore
import Derived.Test.YtbkhejfnhbjhpaaProg
import Derived.KernelRfl
namespace Go.Fl
open Go Go.Proofs
set_option maxRecDepth 100000
theorem sz3 : sizeT Try.prog 3 = some 1 := by kernel_rfl
theorem by3 : bytesT Try.prog 3 = some 8 := by kernel_rfl
theorem ze3 : zeroT Try.prog 3 = some (.int .i64 0) := by kernel_rfl
theorem ag3 : aggT Try.prog 3 = some false := by kernel_rfl
theorem sz4 : sizeT Try.prog 4 = some 1 := by kernel_rfl
theorem by4 : bytesT Try.prog 4 = some 1 := by kernel_rfl
theorem ze4 : zeroT Try.prog 4 = some (.bool false) := by kernel_rfl
theorem ag4 : aggT Try.prog 4 = some false := by kernel_rfl
theorem sz23 : sizeT Try.prog 23 = some 1 := by kernel_rfl
theorem by23 : bytesT Try.prog 23 = some 24 := by kernel_rfl
theorem ze23 : zeroT Try.prog 23 = some (.slice none 0 0) := by kernel_rfl
theorem ag23 : aggT Try.prog 23 = some false := by kernel_rfl
theorem sz25 : sizeT Try.prog 25 = some 2 := by kernel_rfl
theorem by25 : bytesT Try.prog 25 = some 32 := by kernel_rfl
theorem ze25 : zeroT Try.prog 25 = some (.agg #[.int .i64 0, .slice none 0 0]) := by kernel_rfl
theorem ag25 : aggT Try.prog 25 = some true := by kernel_rfl
theorem sz26 : sizeT Try.prog 26 = some 1 := by kernel_rfl
theorem by26 : bytesT Try.prog 26 = some 8 := by kernel_rfl
theorem ze26 : zeroT Try.prog 26 = some (.pointer none) := by kernel_rfl
theorem ag26 : aggT Try.prog 26 = some false := by kernel_rfl
theorem sz31 : sizeT Try.prog 31 = some 1 := by kernel_rfl
theorem by31 : bytesT Try.prog 31 = some 8 := by kernel_rfl
theorem ze31 : zeroT Try.prog 31 = some (.nilFunc) := by kernel_rfl
theorem ag31 : aggT Try.prog 31 = some false := by kernel_rfl
theorem sz34 : sizeT Try.prog 34 = some 1 := by kernel_rfl
theorem by34 : bytesT Try.prog 34 = some 24 := by kernel_rfl
theorem ze34 : zeroT Try.prog 34 = some (.slice none 0 0) := by kernel_rfl
theorem ag34 : aggT Try.prog 34 = some false := by kernel_rfl
theorem sz39 : sizeT Try.prog 39 = some 2 := by kernel_rfl
theorem by39 : bytesT Try.prog 39 = some 16 := by kernel_rfl
theorem ze39 : zeroT Try.prog 39 = some (.agg #[.int .i64 0, .int .i64 0]) := by kernel_rfl
theorem ag39 : aggT Try.prog 39 = some true := by kernel_rfl
theorem sz55 : sizeT Try.prog 55 = some 4 := by kernel_rfl
theorem by55 : bytesT Try.prog 55 = some 96 := by kernel_rfl
theorem ze55 : zeroT Try.prog 55 = some (.agg #[.slice none 0 0, .slice none 0 0, .slice none 0 0, .slice none 0 0]) := by kernel_rfl
theorem ag55 : aggT Try.prog 55 = some true := by kernel_rfl
theorem sz68 : sizeT Try.prog 68 = some 8 := by kernel_rfl
theorem by68 : bytesT Try.prog 68 = some 144 := by kernel_rfl
theorem ze68 : zeroT Try.prog 68 = some (.agg #[.int .i64 0, .slice none 0 0, .slice none 0 0, .slice none 0 0, .slice none 0 0, .slice none 0 0, .int .i64 0, .int .i64 0]) := by kernel_rfl
theorem ag68 : aggT Try.prog 68 = some true := by kernel_rfl
theorem sz73 : sizeT Try.prog 73 = some 4 := by kernel_rfl
theorem by73 : bytesT Try.prog 73 = some 96 := by kernel_rfl
theorem ze73 : zeroT Try.prog 73 = some (.agg #[.slice none 0 0, .slice none 0 0, .slice none 0 0, .slice none 0 0]) := by kernel_rfl
theorem ag73 : aggT Try.prog 73 = some true := by kernel_rfl
theorem sz85 : sizeT Try.prog 85 = some 1 := by kernel_rfl
theorem by85 : bytesT Try.prog 85 = some 24 := by kernel_rfl
theorem ze85 : zeroT Try.prog 85 = some (.slice none 0 0) := by kernel_rfl
theorem ag85 : aggT Try.prog 85 = some false := by kernel_rfl
theorem sz87 : sizeT Try.prog 87 = some 1 := by kernel_rfl
theorem by87 : bytesT Try.prog 87 = some 24 := by kernel_rfl
theorem ze87 : zeroT Try.prog 87 = some (.agg #[.slice none 0 0]) := by kernel_rfl
theorem ag87 : aggT Try.prog 87 = some true := by kernel_rfl
theorem sz90 : sizeT Try.prog 90 = some 2 := by kernel_rfl
theorem by90 : bytesT Try.prog 90 = some 16 := by kernel_rfl
theorem ze90 : zeroT Try.prog 90 = some (.agg #[.int .i64 0, .int .i64 0]) := by kernel_rfl
theorem ag90 : aggT Try.prog 90 = some true := by kernel_rfl
theorem fi25_0 : fieldT Try.prog 25 0 = some (0, 3) := by kernel_rfl
theorem fi25_1 : fieldT Try.prog 25 1 = some (1, 23) := by kernel_rfl
theorem fi39_0 : fieldT Try.prog 39 0 = some (0, 3) := by kernel_rfl
theorem fi39_1 : fieldT Try.prog 39 1 = some (1, 3) := by kernel_rfl
theorem fi55_0 : fieldT Try.prog 55 0 = some (0, 34) := by kernel_rfl
theorem fi55_1 : fieldT Try.prog 55 1 = some (1, 34) := by kernel_rfl
theorem fi55_2 : fieldT Try.prog 55 2 = some (2, 34) := by kernel_rfl
theorem fi55_3 : fieldT Try.prog 55 3 = some (3, 34) := by kernel_rfl
theorem fi68_0 : fieldT Try.prog 68 0 = some (0, 25) := by kernel_rfl
theorem fi68_1 : fieldT Try.prog 68 1 = some (2, 55) := by kernel_rfl
theorem fi68_2 : fieldT Try.prog 68 2 = some (6, 3) := by kernel_rfl
theorem fi68_3 : fieldT Try.prog 68 3 = some (7, 3) := by kernel_rfl
theorem fi73_0 : fieldT Try.prog 73 0 = some (0, 34) := by kernel_rfl
theorem fi73_1 : fieldT Try.prog 73 1 = some (1, 34) := by kernel_rfl
theorem fi73_2 : fieldT Try.prog 73 2 = some (2, 34) := by kernel_rfl
theorem fi73_3 : fieldT Try.prog 73 3 = some (3, 34) := by kernel_rfl
theorem fi87_0 : fieldT Try.prog 87 0 = some (0, 85) := by kernel_rfl
theorem fi90_0 : fieldT Try.prog 90 0 = some (0, 3) := by kernel_rfl
theorem fi90_1 : fieldT Try.prog 90 1 = some (1, 3) := by kernel_rfl
theorem en2 : Ent Try.prog 2 := ⟨⟨_, Try.func2, by kernel_rfl, by kernel_rfl⟩⟩
theorem en3 : Ent Try.prog 3 := ⟨⟨_, Try.func3, by kernel_rfl, by kernel_rfl⟩⟩
theorem en4 : Ent Try.prog 4 := ⟨⟨_, Try.func4, by kernel_rfl, by kernel_rfl⟩⟩
theorem en5 : Ent Try.prog 5 := ⟨⟨_, Try.func5, by kernel_rfl, by kernel_rfl⟩⟩
theorem en6 : Ent Try.prog 6 := ⟨⟨_, Try.func6, by kernel_rfl, by kernel_rfl⟩⟩
theorem en7 : Ent Try.prog 7 := ⟨⟨_, Try.func7, by kernel_rfl, by kernel_rfl⟩⟩
theorem en8 : Ent Try.prog 8 := ⟨⟨_, Try.func8, by kernel_rfl, by kernel_rfl⟩⟩
theorem en9 : Ent Try.prog 9 := ⟨⟨_, Try.func9, by kernel_rfl, by kernel_rfl⟩⟩
theorem en10 : Ent Try.prog 10 := ⟨⟨_, Try.func10, by kernel_rfl, by kernel_rfl⟩⟩
theorem en11 : Ent Try.prog 11 := ⟨⟨_, Try.func11, by kernel_rfl, by kernel_rfl⟩⟩
theorem en12 : Ent Try.prog 12 := ⟨⟨_, Try.func12, by kernel_rfl, by kernel_rfl⟩⟩
theorem en13 : Ent Try.prog 13 := ⟨⟨_, Try.func13, by kernel_rfl, by kernel_rfl⟩⟩
theorem en14 : Ent Try.prog 14 := ⟨⟨_, Try.func14, by kernel_rfl, by kernel_rfl⟩⟩
theorem en15 : Ent Try.prog 15 := ⟨⟨_, Try.func15, by kernel_rfl, by kernel_rfl⟩⟩
theorem en16 : Ent Try.prog 16 := ⟨⟨_, Try.func16, by kernel_rfl, by kernel_rfl⟩⟩
theorem en17 : Ent Try.prog 17 := ⟨⟨_, Try.func17, by kernel_rfl, by kernel_rfl⟩⟩
theorem en18 : Ent Try.prog 18 := ⟨⟨_, Try.func18, by kernel_rfl, by kernel_rfl⟩⟩
theorem en19 : Ent Try.prog 19 := ⟨⟨_, Try.func19, by kernel_rfl, by kernel_rfl⟩⟩
theorem en20 : Ent Try.prog 20 := ⟨⟨_, Try.func20, by kernel_rfl, by kernel_rfl⟩⟩
theorem en21 : Ent Try.prog 21 := ⟨⟨_, Try.func21, by kernel_rfl, by kernel_rfl⟩⟩
theorem en22 : Ent Try.prog 22 := ⟨⟨_, Try.func22, by kernel_rfl, by kernel_rfl⟩⟩
theorem en23 : Ent Try.prog 23 := ⟨⟨_, Try.func23, by kernel_rfl, by kernel_rfl⟩⟩
theorem en24 : Ent Try.prog 24 := ⟨⟨_, Try.func24, by kernel_rfl, by kernel_rfl⟩⟩
theorem en25 : Ent Try.prog 25 := ⟨⟨_, Try.func25, by kernel_rfl, by kernel_rfl⟩⟩
theorem en26 : Ent Try.prog 26 := ⟨⟨_, Try.func26, by kernel_rfl, by kernel_rfl⟩⟩
theorem en27 : Ent Try.prog 27 := ⟨⟨_, Try.func27, by kernel_rfl, by kernel_rfl⟩⟩
theorem en28 : Ent Try.prog 28 := ⟨⟨_, Try.func28, by kernel_rfl, by kernel_rfl⟩⟩
theorem en29 : Ent Try.prog 29 := ⟨⟨_, Try.func29, by kernel_rfl, by kernel_rfl⟩⟩
theorem en30 : Ent Try.prog 30 := ⟨⟨_, Try.func30, by kernel_rfl, by kernel_rfl⟩⟩
theorem en31 : Ent Try.prog 31 := ⟨⟨_, Try.func31, by kernel_rfl, by kernel_rfl⟩⟩
theorem en32 : Ent Try.prog 32 := ⟨⟨_, Try.func32, by kernel_rfl, by kernel_rfl⟩⟩
theorem en33 : Ent Try.prog 33 := ⟨⟨_, Try.func33, by kernel_rfl, by kernel_rfl⟩⟩
theorem en34 : Ent Try.prog 34 := ⟨⟨_, Try.func34, by kernel_rfl, by kernel_rfl⟩⟩
theorem en35 : Ent Try.prog 35 := ⟨⟨_, Try.func35, by kernel_rfl, by kernel_rfl⟩⟩
theorem en36 : Ent Try.prog 36 := ⟨⟨_, Try.func36, by kernel_rfl, by kernel_rfl⟩⟩
theorem en37 : Ent Try.prog 37 := ⟨⟨_, Try.func37, by kernel_rfl, by kernel_rfl⟩⟩
theorem en38 : Ent Try.prog 38 := ⟨⟨_, Try.func38, by kernel_rfl, by kernel_rfl⟩⟩
theorem en39 : Ent Try.prog 39 := ⟨⟨_, Try.func39, by kernel_rfl, by kernel_rfl⟩⟩
theorem en40 : Ent Try.prog 40 := ⟨⟨_, Try.func40, by kernel_rfl, by kernel_rfl⟩⟩
theorem en41 : Ent Try.prog 41 := ⟨⟨_, Try.func41, by kernel_rfl, by kernel_rfl⟩⟩
theorem en42 : Ent Try.prog 42 := ⟨⟨_, Try.func42, by kernel_rfl, by kernel_rfl⟩⟩
theorem en43 : Ent Try.prog 43 := ⟨⟨_, Try.func43, by kernel_rfl, by kernel_rfl⟩⟩
theorem en44 : Ent Try.prog 44 := ⟨⟨_, Try.func44, by kernel_rfl, by kernel_rfl⟩⟩
theorem en45 : Ent Try.prog 45 := ⟨⟨_, Try.func45, by kernel_rfl, by kernel_rfl⟩⟩
theorem en46 : Ent Try.prog 46 := ⟨⟨_, Try.func46, by kernel_rfl, by kernel_rfl⟩⟩
theorem en47 : Ent Try.prog 47 := ⟨⟨_, Try.func47, by kernel_rfl, by kernel_rfl⟩⟩
theorem en48 : Ent Try.prog 48 := ⟨⟨_, Try.func48, by kernel_rfl, by kernel_rfl⟩⟩
theorem en49 : Ent Try.prog 49 := ⟨⟨_, Try.func49, by kernel_rfl, by kernel_rfl⟩⟩
theorem en50 : Ent Try.prog 50 := ⟨⟨_, Try.func50, by kernel_rfl, by kernel_rfl⟩⟩
theorem en51 : Ent Try.prog 51 := ⟨⟨_, Try.func51, by kernel_rfl, by kernel_rfl⟩⟩
theorem en52 : Ent Try.prog 52 := ⟨⟨_, Try.func52, by kernel_rfl, by kernel_rfl⟩⟩
theorem en53 : Ent Try.prog 53 := ⟨⟨_, Try.func53, by kernel_rfl, by kernel_rfl⟩⟩
theorem en54 : Ent Try.prog 54 := ⟨⟨_, Try.func54, by kernel_rfl, by kernel_rfl⟩⟩
theorem en55 : Ent Try.prog 55 := ⟨⟨_, Try.func55, by kernel_rfl, by kernel_rfl⟩⟩
theorem en56 : Ent Try.prog 56 := ⟨⟨_, Try.func56, by kernel_rfl, by kernel_rfl⟩⟩
theorem en57 : Ent Try.prog 57 := ⟨⟨_, Try.func57, by kernel_rfl, by kernel_rfl⟩⟩
theorem en58 : Ent Try.prog 58 := ⟨⟨_, Try.func58, by kernel_rfl, by kernel_rfl⟩⟩
theorem en59 : Ent Try.prog 59 := ⟨⟨_, Try.func59, by kernel_rfl, by kernel_rfl⟩⟩
theorem en60 : Ent Try.prog 60 := ⟨⟨_, Try.func60, by kernel_rfl, by kernel_rfl⟩⟩
theorem en61 : Ent Try.prog 61 := ⟨⟨_, Try.func61, by kernel_rfl, by kernel_rfl⟩⟩
theorem en62 : Ent Try.prog 62 := ⟨⟨_, Try.func62, by kernel_rfl, by kernel_rfl⟩⟩
theorem en63 : Ent Try.prog 63 := ⟨⟨_, Try.func63, by kernel_rfl, by kernel_rfl⟩⟩
theorem en64 : Ent Try.prog 64 := ⟨⟨_, Try.func64, by kernel_rfl, by kernel_rfl⟩⟩
theorem en65 : Ent Try.prog 65 := ⟨⟨_, Try.func65, by kernel_rfl, by kernel_rfl⟩⟩
theorem en66 : Ent Try.prog 66 := ⟨⟨_, Try.func66, by kernel_rfl, by kernel_rfl⟩⟩
theorem en67 : Ent Try.prog 67 := ⟨⟨_, Try.func67, by kernel_rfl, by kernel_rfl⟩⟩
theorem en68 : Ent Try.prog 68 := ⟨⟨_, Try.func68, by kernel_rfl, by kernel_rfl⟩⟩
theorem en69 : Ent Try.prog 69 := ⟨⟨_, Try.func69, by kernel_rfl, by kernel_rfl⟩⟩
theorem en70 : Ent Try.prog 70 := ⟨⟨_, Try.func70, by kernel_rfl, by kernel_rfl⟩⟩
theorem en71 : Ent Try.prog 71 := ⟨⟨_, Try.func71, by kernel_rfl, by kernel_rfl⟩⟩
theorem mixed : Try.prog.follows .mixedOrders = true := by kernel_rfl
theorem bs25 : builtSt Try.prog 25 = some ([(0, 1), (1, 1)], [.int .i64 0, .slice none 0 0]) := by kernel_rfl
theorem bs39 : builtSt Try.prog 39 = some ([(0, 1), (1, 1)], [.int .i64 0, .int .i64 0]) := by kernel_rfl
theorem bs55 : builtSt Try.prog 55 = some ([(0, 1), (1, 1), (2, 1), (3, 1)], [.slice none 0 0, .slice none 0 0, .slice none 0 0, .slice none 0 0]) := by kernel_rfl
theorem bs73 : builtSt Try.prog 73 = some ([(0, 1), (1, 1), (2, 1), (3, 1)], [.slice none 0 0, .slice none 0 0, .slice none 0 0, .slice none 0 0]) := by kernel_rfl
theorem bs90 : builtSt Try.prog 90 = some ([(0, 1), (1, 1)], [.int .i64 0, .int .i64 0]) := by kernel_rfl
end Go.Fl
