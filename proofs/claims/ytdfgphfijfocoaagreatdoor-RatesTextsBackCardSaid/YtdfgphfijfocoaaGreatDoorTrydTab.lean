import Derived.Test.YtdfgphfijfocoaaGreatDoorProg
import Derived.Test.YtdfgphfijfocoaaGreatDoorAxE
set_option maxRecDepth 10000
namespace Go.Proofs.Ax.Tryz
open Go Go.Proofs.Ax
def ti1 : TI := ⟨.other, 1, false, some (.sc (.nilFunc)), some 8, true, 8⟩
theorem tik1 : tiOf Go.Proofs.Tryz.prog 1 = some ti1 := by kernel_rfl
def ti2 : TI := ⟨.int .i64, 1, false, some (.sc (.int .i64 0)), some 8, true, 8⟩
theorem tik2 : tiOf Go.Proofs.Tryz.prog 2 = some ti2 := by kernel_rfl
def ti3 : TI := ⟨.int .i64, 1, false, some (.sc (.int .i64 0)), some 8, true, 8⟩
theorem tik3 : tiOf Go.Proofs.Tryz.prog 3 = some ti3 := by kernel_rfl
def ti4 : TI := ⟨.bool, 1, false, some (.sc (.bool false)), some 1, true, 1⟩
theorem tik4 : tiOf Go.Proofs.Tryz.prog 4 = some ti4 := by kernel_rfl
def ti5 : TI := ⟨.int .u8, 1, false, some (.sc (.int .u8 0)), some 1, true, 1⟩
theorem tik5 : tiOf Go.Proofs.Tryz.prog 5 = some ti5 := by kernel_rfl
def ti6 : TI := ⟨.int .u8, 1, false, some (.sc (.int .u8 0)), some 1, true, 1⟩
theorem tik6 : tiOf Go.Proofs.Tryz.prog 6 = some ti6 := by kernel_rfl
def ti7 : TI := ⟨.struct [(0, 2), (1, 3), (2, 4), (3, 6)], 4, true, some (.agg [.sc (.int .i64 0), .sc (.int .i64 0), .sc (.bool false), .sc (.int .u8 0)]), some 24, true, 24⟩
theorem tik7 : tiOf Go.Proofs.Tryz.prog 7 = some ti7 := by kernel_rfl
def ti8 : TI := ⟨.struct [(0, 2), (1, 3), (2, 4), (3, 6)], 4, true, some (.agg [.sc (.int .i64 0), .sc (.int .i64 0), .sc (.bool false), .sc (.int .u8 0)]), some 24, true, 24⟩
theorem tik8 : tiOf Go.Proofs.Tryz.prog 8 = some ti8 := by kernel_rfl
def ti9 : TI := ⟨.str, 1, false, some (.sc (.string .empty)), some 16, true, 16⟩
theorem tik9 : tiOf Go.Proofs.Tryz.prog 9 = some ti9 := by kernel_rfl
def ti10 : TI := ⟨.str, 1, false, some (.sc (.string .empty)), some 16, true, 16⟩
theorem tik10 : tiOf Go.Proofs.Tryz.prog 10 = some ti10 := by kernel_rfl
def ti11 : TI := ⟨.str, 1, false, some (.sc (.string .empty)), some 16, true, 16⟩
theorem tik11 : tiOf Go.Proofs.Tryz.prog 11 = some ti11 := by kernel_rfl
def ti12 : TI := ⟨.int .u64, 1, false, some (.sc (.int .u64 0)), some 8, true, 8⟩
theorem tik12 : tiOf Go.Proofs.Tryz.prog 12 = some ti12 := by kernel_rfl
def ti13 : TI := ⟨.struct [(0, 9), (1, 12)], 2, true, some (.agg [.sc (.string .empty), .sc (.int .u64 0)]), some 24, false, 24⟩
theorem tik13 : tiOf Go.Proofs.Tryz.prog 13 = some ti13 := by kernel_rfl
def ti14 : TI := ⟨.struct [(0, 9), (1, 12)], 2, true, some (.agg [.sc (.string .empty), .sc (.int .u64 0)]), some 24, false, 24⟩
theorem tik14 : tiOf Go.Proofs.Tryz.prog 14 = some ti14 := by kernel_rfl
def ti15 : TI := ⟨.other, 1, false, some (.sc (.pointer none)), some 8, true, 8⟩
theorem tik15 : tiOf Go.Proofs.Tryz.prog 15 = some ti15 := by kernel_rfl
def ti16 : TI := ⟨.other, 1, false, some (.sc (.pointer none)), some 8, true, 8⟩
theorem tik16 : tiOf Go.Proofs.Tryz.prog 16 = some ti16 := by kernel_rfl
def ti17 : TI := ⟨.other, 1, false, some (.sc (.pointer none)), some 8, true, 8⟩
theorem tik17 : tiOf Go.Proofs.Tryz.prog 17 = some ti17 := by kernel_rfl
def ti18 : TI := ⟨.struct [(0, 17)], 1, true, some (.agg [.sc (.pointer none)]), some 8, false, 8⟩
theorem tik18 : tiOf Go.Proofs.Tryz.prog 18 = some ti18 := by kernel_rfl
def ti19 : TI := ⟨.struct [(0, 17)], 1, true, some (.agg [.sc (.pointer none)]), some 8, false, 8⟩
theorem tik19 : tiOf Go.Proofs.Tryz.prog 19 = some ti19 := by kernel_rfl
def ti20 : TI := ⟨.iface, 1, false, some (.sc (.nilIface)), some 16, true, 16⟩
theorem tik20 : tiOf Go.Proofs.Tryz.prog 20 = some ti20 := by kernel_rfl
def ti21 : TI := ⟨.int .i32, 1, false, some (.sc (.int .i32 0)), some 4, true, 4⟩
theorem tik21 : tiOf Go.Proofs.Tryz.prog 21 = some ti21 := by kernel_rfl
def ti22 : TI := ⟨.slice 105, 1, false, some (.sc (.slice none 0 0)), some 24, true, 24⟩
theorem tik22 : tiOf Go.Proofs.Tryz.prog 22 = some ti22 := by kernel_rfl
def ti23 : TI := ⟨.slice 87, 1, false, some (.sc (.slice none 0 0)), some 24, true, 24⟩
theorem tik23 : tiOf Go.Proofs.Tryz.prog 23 = some ti23 := by kernel_rfl
def ti24 : TI := ⟨.struct [(0, 3), (1, 3)], 2, true, some (.agg [.sc (.int .i64 0), .sc (.int .i64 0)]), some 16, true, 16⟩
theorem tik24 : tiOf Go.Proofs.Tryz.prog 24 = some ti24 := by kernel_rfl
def ti25 : TI := ⟨.struct [(0, 3), (1, 3)], 2, true, some (.agg [.sc (.int .i64 0), .sc (.int .i64 0)]), some 16, true, 16⟩
theorem tik25 : tiOf Go.Proofs.Tryz.prog 25 = some ti25 := by kernel_rfl
def ti26 : TI := ⟨.other, 1, false, some (.sc (.nilFunc)), some 8, true, 8⟩
theorem tik26 : tiOf Go.Proofs.Tryz.prog 26 = some ti26 := by kernel_rfl
def ti27 : TI := ⟨.other, 1, false, some (.sc (.nilFunc)), some 8, true, 8⟩
theorem tik27 : tiOf Go.Proofs.Tryz.prog 27 = some ti27 := by kernel_rfl
def ti28 : TI := ⟨.slice 93, 1, false, some (.sc (.slice none 0 0)), some 24, true, 24⟩
theorem tik28 : tiOf Go.Proofs.Tryz.prog 28 = some ti28 := by kernel_rfl
def ti29 : TI := ⟨.int .i64, 1, false, some (.sc (.int .i64 0)), some 8, true, 8⟩
theorem tik29 : tiOf Go.Proofs.Tryz.prog 29 = some ti29 := by kernel_rfl
def ti31 : TI := ⟨.other, 1, false, some (.sc (.nilFunc)), some 8, true, 8⟩
theorem tik31 : tiOf Go.Proofs.Tryz.prog 31 = some ti31 := by kernel_rfl
def ti32 : TI := ⟨.other, 1, false, some (.sc (.nilFunc)), some 8, true, 8⟩
theorem tik32 : tiOf Go.Proofs.Tryz.prog 32 = some ti32 := by kernel_rfl
def ti33 : TI := ⟨.other, 1, false, some (.sc (.nilFunc)), some 8, true, 8⟩
theorem tik33 : tiOf Go.Proofs.Tryz.prog 33 = some ti33 := by kernel_rfl
def ti34 : TI := ⟨.other, 1, false, some (.sc (.nilFunc)), some 8, true, 8⟩
theorem tik34 : tiOf Go.Proofs.Tryz.prog 34 = some ti34 := by kernel_rfl
def ti35 : TI := ⟨.other, 1, false, some (.sc (.nilFunc)), some 8, true, 8⟩
theorem tik35 : tiOf Go.Proofs.Tryz.prog 35 = some ti35 := by kernel_rfl
def ti36 : TI := ⟨.other, 1, false, some (.sc (.nilFunc)), some 8, true, 8⟩
theorem tik36 : tiOf Go.Proofs.Tryz.prog 36 = some ti36 := by kernel_rfl
def ti37 : TI := ⟨.slice 4, 1, false, some (.sc (.slice none 0 0)), some 24, true, 24⟩
theorem tik37 : tiOf Go.Proofs.Tryz.prog 37 = some ti37 := by kernel_rfl
def ti39 : TI := ⟨.other, 1, false, some (.sc (.nilFunc)), some 8, true, 8⟩
theorem tik39 : tiOf Go.Proofs.Tryz.prog 39 = some ti39 := by kernel_rfl
def ti40 : TI := ⟨.other, 1, false, some (.sc (.nilFunc)), some 8, true, 8⟩
theorem tik40 : tiOf Go.Proofs.Tryz.prog 40 = some ti40 := by kernel_rfl
def ti42 : TI := ⟨.other, 1, false, some (.sc (.nilFunc)), some 8, true, 8⟩
theorem tik42 : tiOf Go.Proofs.Tryz.prog 42 = some ti42 := by kernel_rfl
def ti44 : TI := ⟨.other, 1, false, some (.sc (.nilFunc)), some 8, true, 8⟩
theorem tik44 : tiOf Go.Proofs.Tryz.prog 44 = some ti44 := by kernel_rfl
def ti45 : TI := ⟨.other, 1, false, some (.sc (.nilFunc)), some 8, true, 8⟩
theorem tik45 : tiOf Go.Proofs.Tryz.prog 45 = some ti45 := by kernel_rfl
def ti46 : TI := ⟨.other, 1, false, some (.sc (.nilFunc)), some 8, true, 8⟩
theorem tik46 : tiOf Go.Proofs.Tryz.prog 46 = some ti46 := by kernel_rfl
def ti47 : TI := ⟨.other, 1, false, some (.sc (.nilFunc)), some 8, true, 8⟩
theorem tik47 : tiOf Go.Proofs.Tryz.prog 47 = some ti47 := by kernel_rfl
def ti48 : TI := ⟨.other, 1, false, some (.sc (.nilFunc)), some 8, true, 8⟩
theorem tik48 : tiOf Go.Proofs.Tryz.prog 48 = some ti48 := by kernel_rfl
def ti49 : TI := ⟨.slice 61, 1, false, some (.sc (.slice none 0 0)), some 24, true, 24⟩
theorem tik49 : tiOf Go.Proofs.Tryz.prog 49 = some ti49 := by kernel_rfl
def ti50 : TI := ⟨.other, 1, false, some (.sc (.nilFunc)), some 8, true, 8⟩
theorem tik50 : tiOf Go.Proofs.Tryz.prog 50 = some ti50 := by kernel_rfl
def ti51 : TI := ⟨.other, 1, false, some (.sc (.nilFunc)), some 8, true, 8⟩
theorem tik51 : tiOf Go.Proofs.Tryz.prog 51 = some ti51 := by kernel_rfl
def ti53 : TI := ⟨.other, 1, false, some (.sc (.nilFunc)), some 8, true, 8⟩
theorem tik53 : tiOf Go.Proofs.Tryz.prog 53 = some ti53 := by kernel_rfl
def ti54 : TI := ⟨.slice 74, 1, false, some (.sc (.slice none 0 0)), some 24, true, 24⟩
theorem tik54 : tiOf Go.Proofs.Tryz.prog 54 = some ti54 := by kernel_rfl
def ti56 : TI := ⟨.other, 1, false, some (.sc (.nilFunc)), some 8, true, 8⟩
theorem tik56 : tiOf Go.Proofs.Tryz.prog 56 = some ti56 := by kernel_rfl
def ti57 : TI := ⟨.other, 1, false, some (.sc (.nilFunc)), some 8, true, 8⟩
theorem tik57 : tiOf Go.Proofs.Tryz.prog 57 = some ti57 := by kernel_rfl
def ti58 : TI := ⟨.other, 1, false, some (.sc (.nilFunc)), some 8, true, 8⟩
theorem tik58 : tiOf Go.Proofs.Tryz.prog 58 = some ti58 := by kernel_rfl
def ti59 : TI := ⟨.other, 1, false, some (.sc (.nilFunc)), some 8, true, 8⟩
theorem tik59 : tiOf Go.Proofs.Tryz.prog 59 = some ti59 := by kernel_rfl
def ti60 : TI := ⟨.struct [(0, 3), (1, 3), (2, 3), (3, 3), (4, 3)], 5, true, some (.agg [.sc (.int .i64 0), .sc (.int .i64 0), .sc (.int .i64 0), .sc (.int .i64 0), .sc (.int .i64 0)]), some 40, true, 40⟩
theorem tik60 : tiOf Go.Proofs.Tryz.prog 60 = some ti60 := by kernel_rfl
def ti61 : TI := ⟨.struct [(0, 3), (1, 3), (2, 3), (3, 3), (4, 3)], 5, true, some (.agg [.sc (.int .i64 0), .sc (.int .i64 0), .sc (.int .i64 0), .sc (.int .i64 0), .sc (.int .i64 0)]), some 40, true, 40⟩
theorem tik61 : tiOf Go.Proofs.Tryz.prog 61 = some ti61 := by kernel_rfl
def ti62 : TI := ⟨.other, 1, false, some (.sc (.nilFunc)), some 8, true, 8⟩
theorem tik62 : tiOf Go.Proofs.Tryz.prog 62 = some ti62 := by kernel_rfl
def ti63 : TI := ⟨.other, 1, false, some (.sc (.nilFunc)), some 8, true, 8⟩
theorem tik63 : tiOf Go.Proofs.Tryz.prog 63 = some ti63 := by kernel_rfl
def ti64 : TI := ⟨.other, 1, false, some (.sc (.nilFunc)), some 8, true, 8⟩
theorem tik64 : tiOf Go.Proofs.Tryz.prog 64 = some ti64 := by kernel_rfl
def ti65 : TI := ⟨.other, 1, false, some (.sc (.nilFunc)), some 8, true, 8⟩
theorem tik65 : tiOf Go.Proofs.Tryz.prog 65 = some ti65 := by kernel_rfl
def ti66 : TI := ⟨.other, 1, false, some (.sc (.nilFunc)), some 8, true, 8⟩
theorem tik66 : tiOf Go.Proofs.Tryz.prog 66 = some ti66 := by kernel_rfl
def ti68 : TI := ⟨.other, 1, false, some (.sc (.nilFunc)), some 8, true, 8⟩
theorem tik68 : tiOf Go.Proofs.Tryz.prog 68 = some ti68 := by kernel_rfl
def ti69 : TI := ⟨.struct [(0, 49), (1, 29)], 2, true, some (.agg [.sc (.slice none 0 0), .sc (.int .i64 0)]), some 32, true, 32⟩
theorem tik69 : tiOf Go.Proofs.Tryz.prog 69 = some ti69 := by kernel_rfl
def ti70 : TI := ⟨.struct [(0, 49), (1, 29)], 2, true, some (.agg [.sc (.slice none 0 0), .sc (.int .i64 0)]), some 32, true, 32⟩
theorem tik70 : tiOf Go.Proofs.Tryz.prog 70 = some ti70 := by kernel_rfl
def ti71 : TI := ⟨.other, 1, false, some (.sc (.nilFunc)), some 8, true, 8⟩
theorem tik71 : tiOf Go.Proofs.Tryz.prog 71 = some ti71 := by kernel_rfl
def ti72 : TI := ⟨.other, 1, false, some (.sc (.nilFunc)), some 8, true, 8⟩
theorem tik72 : tiOf Go.Proofs.Tryz.prog 72 = some ti72 := by kernel_rfl
def ti73 : TI := ⟨.struct [(0, 3), (1, 3)], 2, true, some (.agg [.sc (.int .i64 0), .sc (.int .i64 0)]), some 16, true, 16⟩
theorem tik73 : tiOf Go.Proofs.Tryz.prog 73 = some ti73 := by kernel_rfl
def ti74 : TI := ⟨.struct [(0, 3), (1, 3)], 2, true, some (.agg [.sc (.int .i64 0), .sc (.int .i64 0)]), some 16, true, 16⟩
theorem tik74 : tiOf Go.Proofs.Tryz.prog 74 = some ti74 := by kernel_rfl
def ti75 : TI := ⟨.other, 1, false, some (.sc (.nilFunc)), some 8, true, 8⟩
theorem tik75 : tiOf Go.Proofs.Tryz.prog 75 = some ti75 := by kernel_rfl
def ti76 : TI := ⟨.other, 1, false, some (.sc (.nilFunc)), some 8, true, 8⟩
theorem tik76 : tiOf Go.Proofs.Tryz.prog 76 = some ti76 := by kernel_rfl
def ti77 : TI := ⟨.other, 1, false, some (.sc (.nilFunc)), some 8, true, 8⟩
theorem tik77 : tiOf Go.Proofs.Tryz.prog 77 = some ti77 := by kernel_rfl
def ti78 : TI := ⟨.other, 1, false, some (.sc (.nilFunc)), some 8, true, 8⟩
theorem tik78 : tiOf Go.Proofs.Tryz.prog 78 = some ti78 := by kernel_rfl
def ti80 : TI := ⟨.other, 1, false, some (.sc (.nilFunc)), some 8, true, 8⟩
theorem tik80 : tiOf Go.Proofs.Tryz.prog 80 = some ti80 := by kernel_rfl
def ti81 : TI := ⟨.other, 1, false, some (.sc (.nilFunc)), some 8, true, 8⟩
theorem tik81 : tiOf Go.Proofs.Tryz.prog 81 = some ti81 := by kernel_rfl
def ti82 : TI := ⟨.other, 1, false, some (.sc (.nilFunc)), some 8, true, 8⟩
theorem tik82 : tiOf Go.Proofs.Tryz.prog 82 = some ti82 := by kernel_rfl
def ti83 : TI := ⟨.other, 1, false, some (.sc (.nilFunc)), some 8, true, 8⟩
theorem tik83 : tiOf Go.Proofs.Tryz.prog 83 = some ti83 := by kernel_rfl
def ti84 : TI := ⟨.other, 1, false, some (.sc (.nilFunc)), some 8, true, 8⟩
theorem tik84 : tiOf Go.Proofs.Tryz.prog 84 = some ti84 := by kernel_rfl
def ti85 : TI := ⟨.slice 3, 1, false, some (.sc (.slice none 0 0)), some 24, true, 24⟩
theorem tik85 : tiOf Go.Proofs.Tryz.prog 85 = some ti85 := by kernel_rfl
def ti86 : TI := ⟨.struct [(0, 3), (1, 3), (2, 3), (3, 85)], 4, true, some (.agg [.sc (.int .i64 0), .sc (.int .i64 0), .sc (.int .i64 0), .sc (.slice none 0 0)]), some 48, true, 48⟩
theorem tik86 : tiOf Go.Proofs.Tryz.prog 86 = some ti86 := by kernel_rfl
def ti87 : TI := ⟨.struct [(0, 3), (1, 3), (2, 3), (3, 85)], 4, true, some (.agg [.sc (.int .i64 0), .sc (.int .i64 0), .sc (.int .i64 0), .sc (.slice none 0 0)]), some 48, true, 48⟩
theorem tik87 : tiOf Go.Proofs.Tryz.prog 87 = some ti87 := by kernel_rfl
def ti89 : TI := ⟨.other, 1, false, some (.sc (.nilFunc)), some 8, true, 8⟩
theorem tik89 : tiOf Go.Proofs.Tryz.prog 89 = some ti89 := by kernel_rfl
def ti90 : TI := ⟨.other, 1, false, some (.sc (.nilFunc)), some 8, true, 8⟩
theorem tik90 : tiOf Go.Proofs.Tryz.prog 90 = some ti90 := by kernel_rfl
def ti92 : TI := ⟨.other, 1, false, some (.sc (.nilFunc)), some 8, true, 8⟩
theorem tik92 : tiOf Go.Proofs.Tryz.prog 92 = some ti92 := by kernel_rfl
def ti93 : TI := ⟨.array 2 3, 2, true, some (.agg [.sc (.int .i64 0), .sc (.int .i64 0)]), some 16, true, 16⟩
theorem tik93 : tiOf Go.Proofs.Tryz.prog 93 = some ti93 := by kernel_rfl
def ti94 : TI := ⟨.other, 1, false, some (.sc (.nilFunc)), some 8, true, 8⟩
theorem tik94 : tiOf Go.Proofs.Tryz.prog 94 = some ti94 := by kernel_rfl
def ti95 : TI := ⟨.other, 1, false, some (.sc (.nilFunc)), some 8, true, 8⟩
theorem tik95 : tiOf Go.Proofs.Tryz.prog 95 = some ti95 := by kernel_rfl
def ti96 : TI := ⟨.slice 100, 1, false, some (.sc (.slice none 0 0)), some 24, true, 24⟩
theorem tik96 : tiOf Go.Proofs.Tryz.prog 96 = some ti96 := by kernel_rfl
def ti97 : TI := ⟨.other, 1, false, some (.sc (.nilFunc)), some 8, true, 8⟩
theorem tik97 : tiOf Go.Proofs.Tryz.prog 97 = some ti97 := by kernel_rfl
def ti98 : TI := ⟨.other, 1, false, some (.sc (.nilFunc)), some 8, true, 8⟩
theorem tik98 : tiOf Go.Proofs.Tryz.prog 98 = some ti98 := by kernel_rfl
def ti99 : TI := ⟨.struct [(0, 3), (1, 3)], 2, true, some (.agg [.sc (.int .i64 0), .sc (.int .i64 0)]), some 16, true, 16⟩
theorem tik99 : tiOf Go.Proofs.Tryz.prog 99 = some ti99 := by kernel_rfl
def ti100 : TI := ⟨.struct [(0, 3), (1, 3)], 2, true, some (.agg [.sc (.int .i64 0), .sc (.int .i64 0)]), some 16, true, 16⟩
theorem tik100 : tiOf Go.Proofs.Tryz.prog 100 = some ti100 := by kernel_rfl
def ti101 : TI := ⟨.other, 1, false, some (.sc (.nilFunc)), some 8, true, 8⟩
theorem tik101 : tiOf Go.Proofs.Tryz.prog 101 = some ti101 := by kernel_rfl
def ti102 : TI := ⟨.other, 1, false, some (.sc (.nilFunc)), some 8, true, 8⟩
theorem tik102 : tiOf Go.Proofs.Tryz.prog 102 = some ti102 := by kernel_rfl
def ti103 : TI := ⟨.other, 1, false, some (.sc (.nilFunc)), some 8, true, 8⟩
theorem tik103 : tiOf Go.Proofs.Tryz.prog 103 = some ti103 := by kernel_rfl
def ti104 : TI := ⟨.struct [(0, 3), (1, 3), (2, 3), (3, 3), (4, 3), (5, 3), (6, 3)], 7, true, some (.agg [.sc (.int .i64 0), .sc (.int .i64 0), .sc (.int .i64 0), .sc (.int .i64 0), .sc (.int .i64 0), .sc (.int .i64 0), .sc (.int .i64 0)]), some 56, true, 56⟩
theorem tik104 : tiOf Go.Proofs.Tryz.prog 104 = some ti104 := by kernel_rfl
def ti105 : TI := ⟨.struct [(0, 3), (1, 3), (2, 3), (3, 3), (4, 3), (5, 3), (6, 3)], 7, true, some (.agg [.sc (.int .i64 0), .sc (.int .i64 0), .sc (.int .i64 0), .sc (.int .i64 0), .sc (.int .i64 0), .sc (.int .i64 0), .sc (.int .i64 0)]), some 56, true, 56⟩
theorem tik105 : tiOf Go.Proofs.Tryz.prog 105 = some ti105 := by kernel_rfl
def ti107 : TI := ⟨.other, 1, false, some (.sc (.nilFunc)), some 8, true, 8⟩
theorem tik107 : tiOf Go.Proofs.Tryz.prog 107 = some ti107 := by kernel_rfl
def ti108 : TI := ⟨.other, 1, false, some (.sc (.nilFunc)), some 8, true, 8⟩
theorem tik108 : tiOf Go.Proofs.Tryz.prog 108 = some ti108 := by kernel_rfl
def ti109 : TI := ⟨.other, 1, false, some (.sc (.nilFunc)), some 8, true, 8⟩
theorem tik109 : tiOf Go.Proofs.Tryz.prog 109 = some ti109 := by kernel_rfl
def ti110 : TI := ⟨.other, 1, false, some (.sc (.nilFunc)), some 8, true, 8⟩
theorem tik110 : tiOf Go.Proofs.Tryz.prog 110 = some ti110 := by kernel_rfl
def ti111 : TI := ⟨.other, 1, false, some (.sc (.nilFunc)), some 8, true, 8⟩
theorem tik111 : tiOf Go.Proofs.Tryz.prog 111 = some ti111 := by kernel_rfl
def ti112 : TI := ⟨.other, 1, false, some (.sc (.nilFunc)), some 8, true, 8⟩
theorem tik112 : tiOf Go.Proofs.Tryz.prog 112 = some ti112 := by kernel_rfl
def ti113 : TI := ⟨.other, 1, false, some (.sc (.nilFunc)), some 8, true, 8⟩
theorem tik113 : tiOf Go.Proofs.Tryz.prog 113 = some ti113 := by kernel_rfl
def ti114 : TI := ⟨.other, 1, false, some (.sc (.nilFunc)), some 8, true, 8⟩
theorem tik114 : tiOf Go.Proofs.Tryz.prog 114 = some ti114 := by kernel_rfl
def ti115 : TI := ⟨.other, 1, false, some (.sc (.nilFunc)), some 8, true, 8⟩
theorem tik115 : tiOf Go.Proofs.Tryz.prog 115 = some ti115 := by kernel_rfl
def ti116 : TI := ⟨.other, 1, false, some (.sc (.nilFunc)), some 8, true, 8⟩
theorem tik116 : tiOf Go.Proofs.Tryz.prog 116 = some ti116 := by kernel_rfl
def ti117 : TI := ⟨.other, 1, false, some (.sc (.nilFunc)), some 8, true, 8⟩
theorem tik117 : tiOf Go.Proofs.Tryz.prog 117 = some ti117 := by kernel_rfl
def ti118 : TI := ⟨.other, 1, false, some (.sc (.nilFunc)), some 8, true, 8⟩
theorem tik118 : tiOf Go.Proofs.Tryz.prog 118 = some ti118 := by kernel_rfl
def ti119 : TI := ⟨.other, 1, false, some (.sc (.nilFunc)), some 8, true, 8⟩
theorem tik119 : tiOf Go.Proofs.Tryz.prog 119 = some ti119 := by kernel_rfl
def ti120 : TI := ⟨.other, 1, false, some (.sc (.nilFunc)), some 8, true, 8⟩
theorem tik120 : tiOf Go.Proofs.Tryz.prog 120 = some ti120 := by kernel_rfl
def ti121 : TI := ⟨.other, 1, false, some (.sc (.nilFunc)), some 8, true, 8⟩
theorem tik121 : tiOf Go.Proofs.Tryz.prog 121 = some ti121 := by kernel_rfl
def ti122 : TI := ⟨.other, 1, false, some (.sc (.nilFunc)), some 8, true, 8⟩
theorem tik122 : tiOf Go.Proofs.Tryz.prog 122 = some ti122 := by kernel_rfl
def ti123 : TI := ⟨.map 100 49, 1, false, some (.sc (.map none)), some 8, true, 8⟩
theorem tik123 : tiOf Go.Proofs.Tryz.prog 123 = some ti123 := by kernel_rfl
def ti124 : TI := ⟨.other, 1, false, some (.sc (.nilFunc)), some 8, true, 8⟩
theorem tik124 : tiOf Go.Proofs.Tryz.prog 124 = some ti124 := by kernel_rfl
def ti125 : TI := ⟨.other, 1, false, some (.sc (.nilFunc)), some 8, true, 8⟩
theorem tik125 : tiOf Go.Proofs.Tryz.prog 125 = some ti125 := by kernel_rfl
def ti126 : TI := ⟨.other, 1, false, some (.sc (.nilFunc)), some 8, true, 8⟩
theorem tik126 : tiOf Go.Proofs.Tryz.prog 126 = some ti126 := by kernel_rfl
def ti127 : TI := ⟨.other, 1, false, some (.sc (.nilFunc)), some 8, true, 8⟩
theorem tik127 : tiOf Go.Proofs.Tryz.prog 127 = some ti127 := by kernel_rfl
def ti128 : TI := ⟨.other, 1, false, some (.sc (.pointer none)), some 8, true, 8⟩
theorem tik128 : tiOf Go.Proofs.Tryz.prog 128 = some ti128 := by kernel_rfl
def ti129 : TI := ⟨.slice 5, 1, false, some (.sc (.slice none 0 0)), some 24, true, 24⟩
theorem tik129 : tiOf Go.Proofs.Tryz.prog 129 = some ti129 := by kernel_rfl
def ti130 : TI := ⟨.struct [(0, 128), (1, 129)], 2, true, some (.agg [.sc (.pointer none), .sc (.slice none 0 0)]), some 32, true, 32⟩
theorem tik130 : tiOf Go.Proofs.Tryz.prog 130 = some ti130 := by kernel_rfl
def ti131 : TI := ⟨.struct [(0, 128), (1, 129)], 2, true, some (.agg [.sc (.pointer none), .sc (.slice none 0 0)]), some 32, true, 32⟩
theorem tik131 : tiOf Go.Proofs.Tryz.prog 131 = some ti131 := by kernel_rfl
def ti132 : TI := ⟨.struct [(0, 131)], 2, true, some (.agg [.sc (.pointer none), .sc (.slice none 0 0)]), some 32, true, 32⟩
theorem tik132 : tiOf Go.Proofs.Tryz.prog 132 = some ti132 := by kernel_rfl
def ti133 : TI := ⟨.struct [(0, 131)], 2, true, some (.agg [.sc (.pointer none), .sc (.slice none 0 0)]), some 32, true, 32⟩
theorem tik133 : tiOf Go.Proofs.Tryz.prog 133 = some ti133 := by kernel_rfl
def ti134 : TI := ⟨.other, 1, false, some (.sc (.nilFunc)), some 8, true, 8⟩
theorem tik134 : tiOf Go.Proofs.Tryz.prog 134 = some ti134 := by kernel_rfl
def ti135 : TI := ⟨.other, 1, false, some (.sc (.nilFunc)), some 8, true, 8⟩
theorem tik135 : tiOf Go.Proofs.Tryz.prog 135 = some ti135 := by kernel_rfl
def ti136 : TI := ⟨.other, 1, false, some (.sc (.nilFunc)), some 8, true, 8⟩
theorem tik136 : tiOf Go.Proofs.Tryz.prog 136 = some ti136 := by kernel_rfl
def ti137 : TI := ⟨.other, 1, false, some (.sc (.nilFunc)), some 8, true, 8⟩
theorem tik137 : tiOf Go.Proofs.Tryz.prog 137 = some ti137 := by kernel_rfl
def ti138 : TI := ⟨.other, 1, false, some (.sc (.nilFunc)), some 8, true, 8⟩
theorem tik138 : tiOf Go.Proofs.Tryz.prog 138 = some ti138 := by kernel_rfl
def ti139 : TI := ⟨.other, 1, false, some (.sc (.nilFunc)), some 8, true, 8⟩
theorem tik139 : tiOf Go.Proofs.Tryz.prog 139 = some ti139 := by kernel_rfl
def ti140 : TI := ⟨.slice 9, 1, false, some (.sc (.slice none 0 0)), some 24, true, 24⟩
theorem tik140 : tiOf Go.Proofs.Tryz.prog 140 = some ti140 := by kernel_rfl
def ti141 : TI := ⟨.other, 1, false, some (.sc (.nilFunc)), some 8, true, 8⟩
theorem tik141 : tiOf Go.Proofs.Tryz.prog 141 = some ti141 := by kernel_rfl
def ti142 : TI := ⟨.other, 1, false, some (.sc (.nilFunc)), some 8, true, 8⟩
theorem tik142 : tiOf Go.Proofs.Tryz.prog 142 = some ti142 := by kernel_rfl
def ti143 : TI := ⟨.array 5 3, 5, true, some (.agg [.sc (.int .i64 0), .sc (.int .i64 0), .sc (.int .i64 0), .sc (.int .i64 0), .sc (.int .i64 0)]), some 40, true, 40⟩
theorem tik143 : tiOf Go.Proofs.Tryz.prog 143 = some ti143 := by kernel_rfl
def ti144 : TI := ⟨.iface, 1, false, some (.sc (.nilIface)), some 16, false, 16⟩
theorem tik144 : tiOf Go.Proofs.Tryz.prog 144 = some ti144 := by kernel_rfl
def ti145 : TI := ⟨.iface, 1, false, some (.sc (.nilIface)), some 16, false, 16⟩
theorem tik145 : tiOf Go.Proofs.Tryz.prog 145 = some ti145 := by kernel_rfl
def ti147 : TI := ⟨.other, 1, false, some (.sc (.nilFunc)), some 8, true, 8⟩
theorem tik147 : tiOf Go.Proofs.Tryz.prog 147 = some ti147 := by kernel_rfl
def ti149 : TI := ⟨.other, 1, false, some (.sc (.nilFunc)), some 8, true, 8⟩
theorem tik149 : tiOf Go.Proofs.Tryz.prog 149 = some ti149 := by kernel_rfl
def ti150 : TI := ⟨.other, 1, false, some (.sc (.nilFunc)), some 8, true, 8⟩
theorem tik150 : tiOf Go.Proofs.Tryz.prog 150 = some ti150 := by kernel_rfl
def ti151 : TI := ⟨.other, 1, false, some (.sc (.nilFunc)), some 8, true, 8⟩
theorem tik151 : tiOf Go.Proofs.Tryz.prog 151 = some ti151 := by kernel_rfl
def ti152 : TI := ⟨.other, 1, false, some (.sc (.nilFunc)), some 8, true, 8⟩
theorem tik152 : tiOf Go.Proofs.Tryz.prog 152 = some ti152 := by kernel_rfl
def ti153 : TI := ⟨.other, 1, false, some (.sc (.nilFunc)), some 8, true, 8⟩
theorem tik153 : tiOf Go.Proofs.Tryz.prog 153 = some ti153 := by kernel_rfl
def ti154 : TI := ⟨.other, 1, false, some (.sc (.nilFunc)), some 8, true, 8⟩
theorem tik154 : tiOf Go.Proofs.Tryz.prog 154 = some ti154 := by kernel_rfl
def ti155 : TI := ⟨.other, 1, false, some (.sc (.nilFunc)), some 8, true, 8⟩
theorem tik155 : tiOf Go.Proofs.Tryz.prog 155 = some ti155 := by kernel_rfl
def ti156 : TI := ⟨.struct [(0, 3), (1, 3)], 2, true, some (.agg [.sc (.int .i64 0), .sc (.int .i64 0)]), some 16, true, 16⟩
theorem tik156 : tiOf Go.Proofs.Tryz.prog 156 = some ti156 := by kernel_rfl
def ti157 : TI := ⟨.struct [(0, 3), (1, 3)], 2, true, some (.agg [.sc (.int .i64 0), .sc (.int .i64 0)]), some 16, true, 16⟩
theorem tik157 : tiOf Go.Proofs.Tryz.prog 157 = some ti157 := by kernel_rfl
def ti158 : TI := ⟨.other, 1, false, some (.sc (.nilFunc)), some 8, true, 8⟩
theorem tik158 : tiOf Go.Proofs.Tryz.prog 158 = some ti158 := by kernel_rfl
def ti159 : TI := ⟨.other, 1, false, some (.sc (.nilFunc)), some 8, true, 8⟩
theorem tik159 : tiOf Go.Proofs.Tryz.prog 159 = some ti159 := by kernel_rfl
def ti160 : TI := ⟨.other, 1, false, some (.sc (.nilFunc)), some 8, true, 8⟩
theorem tik160 : tiOf Go.Proofs.Tryz.prog 160 = some ti160 := by kernel_rfl
def ti161 : TI := ⟨.other, 1, false, some (.sc (.nilFunc)), some 8, true, 8⟩
theorem tik161 : tiOf Go.Proofs.Tryz.prog 161 = some ti161 := by kernel_rfl
def ti162 : TI := ⟨.map 3 3, 1, false, some (.sc (.map none)), some 8, true, 8⟩
theorem tik162 : tiOf Go.Proofs.Tryz.prog 162 = some ti162 := by kernel_rfl
def ti163 : TI := ⟨.other, 1, false, some (.sc (.nilFunc)), some 8, true, 8⟩
theorem tik163 : tiOf Go.Proofs.Tryz.prog 163 = some ti163 := by kernel_rfl
def ti164 : TI := ⟨.other, 1, false, some (.sc (.nilFunc)), some 8, true, 8⟩
theorem tik164 : tiOf Go.Proofs.Tryz.prog 164 = some ti164 := by kernel_rfl
def ti165 : TI := ⟨.other, 1, false, some (.sc (.nilFunc)), some 8, true, 8⟩
theorem tik165 : tiOf Go.Proofs.Tryz.prog 165 = some ti165 := by kernel_rfl
def ti166 : TI := ⟨.other, 1, false, some (.sc (.nilFunc)), some 8, true, 8⟩
theorem tik166 : tiOf Go.Proofs.Tryz.prog 166 = some ti166 := by kernel_rfl
def ti167 : TI := ⟨.other, 1, false, some (.sc (.nilFunc)), some 8, true, 8⟩
theorem tik167 : tiOf Go.Proofs.Tryz.prog 167 = some ti167 := by kernel_rfl
def ti168 : TI := ⟨.other, 1, false, some (.sc (.pointer none)), some 8, true, 8⟩
theorem tik168 : tiOf Go.Proofs.Tryz.prog 168 = some ti168 := by kernel_rfl
def ti169 : TI := ⟨.other, 1, false, some (.sc (.nilFunc)), some 8, true, 8⟩
theorem tik169 : tiOf Go.Proofs.Tryz.prog 169 = some ti169 := by kernel_rfl
def ti170 : TI := ⟨.other, 1, false, some (.sc (.nilFunc)), some 8, true, 8⟩
theorem tik170 : tiOf Go.Proofs.Tryz.prog 170 = some ti170 := by kernel_rfl
def ti171 : TI := ⟨.other, 1, false, some (.sc (.pointer none)), some 8, true, 8⟩
theorem tik171 : tiOf Go.Proofs.Tryz.prog 171 = some ti171 := by kernel_rfl
def ti172 : TI := ⟨.other, 1, false, some (.sc (.nilFunc)), some 8, true, 8⟩
theorem tik172 : tiOf Go.Proofs.Tryz.prog 172 = some ti172 := by kernel_rfl
def ti173 : TI := ⟨.other, 1, false, some (.sc (.nilFunc)), some 8, true, 8⟩
theorem tik173 : tiOf Go.Proofs.Tryz.prog 173 = some ti173 := by kernel_rfl
def ti174 : TI := ⟨.other, 1, false, some (.sc (.nilFunc)), some 8, true, 8⟩
theorem tik174 : tiOf Go.Proofs.Tryz.prog 174 = some ti174 := by kernel_rfl
def ti175 : TI := ⟨.other, 1, false, some (.sc (.nilFunc)), some 8, true, 8⟩
theorem tik175 : tiOf Go.Proofs.Tryz.prog 175 = some ti175 := by kernel_rfl
def ti176 : TI := ⟨.other, 1, false, some (.sc (.nilFunc)), some 8, true, 8⟩
theorem tik176 : tiOf Go.Proofs.Tryz.prog 176 = some ti176 := by kernel_rfl
def ti177 : TI := ⟨.other, 1, false, some (.sc (.nilFunc)), some 8, true, 8⟩
theorem tik177 : tiOf Go.Proofs.Tryz.prog 177 = some ti177 := by kernel_rfl
def ti178 : TI := ⟨.other, 1, false, some (.sc (.nilFunc)), some 8, true, 8⟩
theorem tik178 : tiOf Go.Proofs.Tryz.prog 178 = some ti178 := by kernel_rfl
def ti179 : TI := ⟨.other, 1, false, some (.sc (.nilFunc)), some 8, true, 8⟩
theorem tik179 : tiOf Go.Proofs.Tryz.prog 179 = some ti179 := by kernel_rfl
def ti180 : TI := ⟨.int .u64, 1, false, some (.sc (.int .u64 0)), some 8, true, 8⟩
theorem tik180 : tiOf Go.Proofs.Tryz.prog 180 = some ti180 := by kernel_rfl
def ti181 : TI := ⟨.other, 1, false, some (.sc (.pointer none)), some 8, true, 8⟩
theorem tik181 : tiOf Go.Proofs.Tryz.prog 181 = some ti181 := by kernel_rfl
def ti182 : TI := ⟨.struct [(0, 85), (1, 29)], 2, true, some (.agg [.sc (.slice none 0 0), .sc (.int .i64 0)]), some 32, true, 32⟩
theorem tik182 : tiOf Go.Proofs.Tryz.prog 182 = some ti182 := by kernel_rfl
def ti183 : TI := ⟨.struct [(0, 85), (1, 29)], 2, true, some (.agg [.sc (.slice none 0 0), .sc (.int .i64 0)]), some 32, true, 32⟩
theorem tik183 : tiOf Go.Proofs.Tryz.prog 183 = some ti183 := by kernel_rfl
def ti184 : TI := ⟨.other, 1, false, some (.sc (.nilFunc)), some 8, true, 8⟩
theorem tik184 : tiOf Go.Proofs.Tryz.prog 184 = some ti184 := by kernel_rfl
def ti185 : TI := ⟨.other, 1, false, some (.sc (.nilFunc)), some 8, true, 8⟩
theorem tik185 : tiOf Go.Proofs.Tryz.prog 185 = some ti185 := by kernel_rfl
def ti186 : TI := ⟨.other, 1, false, some (.sc (.nilFunc)), some 8, true, 8⟩
theorem tik186 : tiOf Go.Proofs.Tryz.prog 186 = some ti186 := by kernel_rfl
def ti187 : TI := ⟨.other, 1, false, some (.sc (.nilFunc)), some 8, true, 8⟩
theorem tik187 : tiOf Go.Proofs.Tryz.prog 187 = some ti187 := by kernel_rfl
def ti188 : TI := ⟨.other, 1, false, some (.sc (.nilFunc)), some 8, true, 8⟩
theorem tik188 : tiOf Go.Proofs.Tryz.prog 188 = some ti188 := by kernel_rfl
def ti189 : TI := ⟨.int .i64, 1, false, some (.sc (.int .i64 0)), some 8, true, 8⟩
theorem tik189 : tiOf Go.Proofs.Tryz.prog 189 = some ti189 := by kernel_rfl
def ti191 : TI := ⟨.other, 1, false, some (.sc (.nilFunc)), some 8, true, 8⟩
theorem tik191 : tiOf Go.Proofs.Tryz.prog 191 = some ti191 := by kernel_rfl
def ti192 : TI := ⟨.other, 1, false, some (.sc (.pointer none)), some 8, true, 8⟩
theorem tik192 : tiOf Go.Proofs.Tryz.prog 192 = some ti192 := by kernel_rfl
def ti193 : TI := ⟨.other, 1, false, some (.sc (.nilFunc)), some 8, true, 8⟩
theorem tik193 : tiOf Go.Proofs.Tryz.prog 193 = some ti193 := by kernel_rfl
def ti194 : TI := ⟨.other, 1, false, some (.sc (.nilFunc)), some 8, true, 8⟩
theorem tik194 : tiOf Go.Proofs.Tryz.prog 194 = some ti194 := by kernel_rfl
def ti195 : TI := ⟨.other, 1, false, some (.sc (.nilFunc)), some 8, true, 8⟩
theorem tik195 : tiOf Go.Proofs.Tryz.prog 195 = some ti195 := by kernel_rfl
def ti196 : TI := ⟨.other, 1, false, some (.sc (.nilFunc)), some 8, true, 8⟩
theorem tik196 : tiOf Go.Proofs.Tryz.prog 196 = some ti196 := by kernel_rfl
def ti197 : TI := ⟨.int .i64, 1, false, some (.sc (.int .i64 0)), some 8, true, 8⟩
theorem tik197 : tiOf Go.Proofs.Tryz.prog 197 = some ti197 := by kernel_rfl
def ti199 : TI := ⟨.other, 1, false, some (.sc (.nilFunc)), some 8, true, 8⟩
theorem tik199 : tiOf Go.Proofs.Tryz.prog 199 = some ti199 := by kernel_rfl
def ti200 : TI := ⟨.other, 1, false, some (.sc (.nilFunc)), some 8, true, 8⟩
theorem tik200 : tiOf Go.Proofs.Tryz.prog 200 = some ti200 := by kernel_rfl
def ti201 : TI := ⟨.other, 1, false, some (.sc (.nilFunc)), some 8, true, 8⟩
theorem tik201 : tiOf Go.Proofs.Tryz.prog 201 = some ti201 := by kernel_rfl
def ti203 : TI := ⟨.other, 1, false, some (.sc (.nilFunc)), some 8, true, 8⟩
theorem tik203 : tiOf Go.Proofs.Tryz.prog 203 = some ti203 := by kernel_rfl
def ti204 : TI := ⟨.other, 1, false, some (.sc (.nilFunc)), some 8, true, 8⟩
theorem tik204 : tiOf Go.Proofs.Tryz.prog 204 = some ti204 := by kernel_rfl
def ti205 : TI := ⟨.int .u32, 1, false, some (.sc (.int .u32 0)), some 4, true, 4⟩
theorem tik205 : tiOf Go.Proofs.Tryz.prog 205 = some ti205 := by kernel_rfl
def ti206 : TI := ⟨.other, 1, false, some (.sc (.nilFunc)), some 8, true, 8⟩
theorem tik206 : tiOf Go.Proofs.Tryz.prog 206 = some ti206 := by kernel_rfl
def ti207 : TI := ⟨.int .u64, 1, false, some (.sc (.int .u64 0)), some 8, true, 8⟩
theorem tik207 : tiOf Go.Proofs.Tryz.prog 207 = some ti207 := by kernel_rfl
def ti208 : TI := ⟨.other, 1, false, some (.sc (.nilFunc)), some 8, true, 8⟩
theorem tik208 : tiOf Go.Proofs.Tryz.prog 208 = some ti208 := by kernel_rfl
def ti209 : TI := ⟨.other, 1, false, some (.sc (.nilFunc)), some 8, true, 8⟩
theorem tik209 : tiOf Go.Proofs.Tryz.prog 209 = some ti209 := by kernel_rfl
def ti210 : TI := ⟨.other, 1, false, some (.sc (.pointer none)), some 8, true, 8⟩
theorem tik210 : tiOf Go.Proofs.Tryz.prog 210 = some ti210 := by kernel_rfl
def ti211 : TI := ⟨.other, 1, false, some (.sc (.nilFunc)), some 8, true, 8⟩
theorem tik211 : tiOf Go.Proofs.Tryz.prog 211 = some ti211 := by kernel_rfl
def ti212 : TI := ⟨.other, 1, false, some (.sc (.nilFunc)), some 8, true, 8⟩
theorem tik212 : tiOf Go.Proofs.Tryz.prog 212 = some ti212 := by kernel_rfl
def ti213 : TI := ⟨.other, 1, false, some (.sc (.nilFunc)), some 8, true, 8⟩
theorem tik213 : tiOf Go.Proofs.Tryz.prog 213 = some ti213 := by kernel_rfl
def ti215 : TI := ⟨.other, 1, false, some (.sc (.nilFunc)), some 8, true, 8⟩
theorem tik215 : tiOf Go.Proofs.Tryz.prog 215 = some ti215 := by kernel_rfl
def ti217 : TI := ⟨.other, 1, false, some (.sc (.nilFunc)), some 8, true, 8⟩
theorem tik217 : tiOf Go.Proofs.Tryz.prog 217 = some ti217 := by kernel_rfl
def ti218 : TI := ⟨.other, 1, false, some (.sc (.nilFunc)), some 8, true, 8⟩
theorem tik218 : tiOf Go.Proofs.Tryz.prog 218 = some ti218 := by kernel_rfl
def ti219 : TI := ⟨.struct [(0, 9), (1, 9), (2, 145)], 3, true, some (.agg [.sc (.string .empty), .sc (.string .empty), .sc (.nilIface)]), some 48, false, 48⟩
theorem tik219 : tiOf Go.Proofs.Tryz.prog 219 = some ti219 := by kernel_rfl
def ti220 : TI := ⟨.struct [(0, 9), (1, 9), (2, 145)], 3, true, some (.agg [.sc (.string .empty), .sc (.string .empty), .sc (.nilIface)]), some 48, false, 48⟩
theorem tik220 : tiOf Go.Proofs.Tryz.prog 220 = some ti220 := by kernel_rfl
def ti221 : TI := ⟨.other, 1, false, some (.sc (.nilFunc)), some 8, true, 8⟩
theorem tik221 : tiOf Go.Proofs.Tryz.prog 221 = some ti221 := by kernel_rfl
def ti222 : TI := ⟨.other, 1, false, some (.sc (.nilFunc)), some 8, true, 8⟩
theorem tik222 : tiOf Go.Proofs.Tryz.prog 222 = some ti222 := by kernel_rfl
def ti223 : TI := ⟨.other, 1, false, some (.sc (.nilFunc)), some 8, true, 8⟩
theorem tik223 : tiOf Go.Proofs.Tryz.prog 223 = some ti223 := by kernel_rfl
def ti224 : TI := ⟨.int .u64, 1, false, some (.sc (.int .u64 0)), some 8, true, 8⟩
theorem tik224 : tiOf Go.Proofs.Tryz.prog 224 = some ti224 := by kernel_rfl
def ti225 : TI := ⟨.other, 1, false, some (.sc (.nilFunc)), some 8, true, 8⟩
theorem tik225 : tiOf Go.Proofs.Tryz.prog 225 = some ti225 := by kernel_rfl
def ti226 : TI := ⟨.other, 1, false, some (.sc (.nilFunc)), some 8, true, 8⟩
theorem tik226 : tiOf Go.Proofs.Tryz.prog 226 = some ti226 := by kernel_rfl
def ti227 : TI := ⟨.other, 1, false, some (.sc (.nilFunc)), some 8, true, 8⟩
theorem tik227 : tiOf Go.Proofs.Tryz.prog 227 = some ti227 := by kernel_rfl
def ti228 : TI := ⟨.other, 1, false, some (.sc (.pointer none)), some 8, true, 8⟩
theorem tik228 : tiOf Go.Proofs.Tryz.prog 228 = some ti228 := by kernel_rfl
def ti229 : TI := ⟨.other, 1, false, some (.sc (.nilFunc)), some 8, true, 8⟩
theorem tik229 : tiOf Go.Proofs.Tryz.prog 229 = some ti229 := by kernel_rfl
def ti230 : TI := ⟨.other, 1, false, some (.sc (.nilFunc)), some 8, true, 8⟩
theorem tik230 : tiOf Go.Proofs.Tryz.prog 230 = some ti230 := by kernel_rfl
def ti231 : TI := ⟨.other, 1, false, some (.sc (.nilFunc)), some 8, true, 8⟩
theorem tik231 : tiOf Go.Proofs.Tryz.prog 231 = some ti231 := by kernel_rfl
def ti232 : TI := ⟨.other, 1, false, some (.sc (.nilFunc)), some 8, true, 8⟩
theorem tik232 : tiOf Go.Proofs.Tryz.prog 232 = some ti232 := by kernel_rfl
def ti233 : TI := ⟨.other, 1, false, some (.sc (.nilFunc)), some 8, true, 8⟩
theorem tik233 : tiOf Go.Proofs.Tryz.prog 233 = some ti233 := by kernel_rfl
def ti234 : TI := ⟨.other, 1, false, some (.sc (.nilFunc)), some 8, true, 8⟩
theorem tik234 : tiOf Go.Proofs.Tryz.prog 234 = some ti234 := by kernel_rfl
def ti235 : TI := ⟨.other, 1, false, some (.sc (.nilFunc)), some 8, true, 8⟩
theorem tik235 : tiOf Go.Proofs.Tryz.prog 235 = some ti235 := by kernel_rfl
def ti236 : TI := ⟨.array 24 5, 24, true, some (.agg [.sc (.int .u8 0), .sc (.int .u8 0), .sc (.int .u8 0), .sc (.int .u8 0), .sc (.int .u8 0), .sc (.int .u8 0), .sc (.int .u8 0), .sc (.int .u8 0), .sc (.int .u8 0), .sc (.int .u8 0), .sc (.int .u8 0), .sc (.int .u8 0), .sc (.int .u8 0), .sc (.int .u8 0), .sc (.int .u8 0), .sc (.int .u8 0), .sc (.int .u8 0), .sc (.int .u8 0), .sc (.int .u8 0), .sc (.int .u8 0), .sc (.int .u8 0), .sc (.int .u8 0), .sc (.int .u8 0), .sc (.int .u8 0)]), some 24, true, 24⟩
theorem tik236 : tiOf Go.Proofs.Tryz.prog 236 = some ti236 := by kernel_rfl
def ti237 : TI := ⟨.other, 1, false, some (.sc (.nilFunc)), some 8, true, 8⟩
theorem tik237 : tiOf Go.Proofs.Tryz.prog 237 = some ti237 := by kernel_rfl
def ti239 : TI := ⟨.other, 1, false, some (.sc (.nilFunc)), some 8, true, 8⟩
theorem tik239 : tiOf Go.Proofs.Tryz.prog 239 = some ti239 := by kernel_rfl
def ti240 : TI := ⟨.other, 1, false, some (.sc (.nilFunc)), some 8, true, 8⟩
theorem tik240 : tiOf Go.Proofs.Tryz.prog 240 = some ti240 := by kernel_rfl
def ti241 : TI := ⟨.other, 1, false, some (.sc (.nilFunc)), some 8, true, 8⟩
theorem tik241 : tiOf Go.Proofs.Tryz.prog 241 = some ti241 := by kernel_rfl
def ti242 : TI := ⟨.other, 1, false, some (.sc (.pointer none)), some 8, true, 8⟩
theorem tik242 : tiOf Go.Proofs.Tryz.prog 242 = some ti242 := by kernel_rfl
def ti243 : TI := ⟨.struct [(0, 9)], 1, true, some (.agg [.sc (.string .empty)]), some 16, true, 16⟩
theorem tik243 : tiOf Go.Proofs.Tryz.prog 243 = some ti243 := by kernel_rfl
def ti244 : TI := ⟨.struct [(0, 9)], 1, true, some (.agg [.sc (.string .empty)]), some 16, true, 16⟩
theorem tik244 : tiOf Go.Proofs.Tryz.prog 244 = some ti244 := by kernel_rfl
def ti245 : TI := ⟨.other, 1, false, some (.sc (.pointer none)), some 8, true, 8⟩
theorem tik245 : tiOf Go.Proofs.Tryz.prog 245 = some ti245 := by kernel_rfl
def ti247 : TI := ⟨.other, 1, false, some (.sc (.nilFunc)), some 8, true, 8⟩
theorem tik247 : tiOf Go.Proofs.Tryz.prog 247 = some ti247 := by kernel_rfl
def ti248 : TI := ⟨.other, 1, false, some (.sc (.nilFunc)), some 8, true, 8⟩
theorem tik248 : tiOf Go.Proofs.Tryz.prog 248 = some ti248 := by kernel_rfl
def ti249 : TI := ⟨.other, 1, false, some (.sc (.nilFunc)), some 8, true, 8⟩
theorem tik249 : tiOf Go.Proofs.Tryz.prog 249 = some ti249 := by kernel_rfl
def ti250 : TI := ⟨.other, 1, false, some (.sc (.nilFunc)), some 8, true, 8⟩
theorem tik250 : tiOf Go.Proofs.Tryz.prog 250 = some ti250 := by kernel_rfl
def ti251 : TI := ⟨.array 20 207, 20, true, some (.agg [.sc (.int .u64 0), .sc (.int .u64 0), .sc (.int .u64 0), .sc (.int .u64 0), .sc (.int .u64 0), .sc (.int .u64 0), .sc (.int .u64 0), .sc (.int .u64 0), .sc (.int .u64 0), .sc (.int .u64 0), .sc (.int .u64 0), .sc (.int .u64 0), .sc (.int .u64 0), .sc (.int .u64 0), .sc (.int .u64 0), .sc (.int .u64 0), .sc (.int .u64 0), .sc (.int .u64 0), .sc (.int .u64 0), .sc (.int .u64 0)]), some 160, true, 160⟩
theorem tik251 : tiOf Go.Proofs.Tryz.prog 251 = some ti251 := by kernel_rfl
def ti254 : TI := ⟨.struct [(0, 5), (1, 5)], 2, true, some (.agg [.sc (.int .u8 0), .sc (.int .u8 0)]), some 2, true, 2⟩
theorem tik254 : tiOf Go.Proofs.Tryz.prog 254 = some ti254 := by kernel_rfl
def ti255 : TI := ⟨.struct [(0, 5), (1, 5)], 2, true, some (.agg [.sc (.int .u8 0), .sc (.int .u8 0)]), some 2, true, 2⟩
theorem tik255 : tiOf Go.Proofs.Tryz.prog 255 = some ti255 := by kernel_rfl
def ti256 : TI := ⟨.array 16 255, 32, true, some (.agg [.sc (.int .u8 0), .sc (.int .u8 0), .sc (.int .u8 0), .sc (.int .u8 0), .sc (.int .u8 0), .sc (.int .u8 0), .sc (.int .u8 0), .sc (.int .u8 0), .sc (.int .u8 0), .sc (.int .u8 0), .sc (.int .u8 0), .sc (.int .u8 0), .sc (.int .u8 0), .sc (.int .u8 0), .sc (.int .u8 0), .sc (.int .u8 0), .sc (.int .u8 0), .sc (.int .u8 0), .sc (.int .u8 0), .sc (.int .u8 0), .sc (.int .u8 0), .sc (.int .u8 0), .sc (.int .u8 0), .sc (.int .u8 0), .sc (.int .u8 0), .sc (.int .u8 0), .sc (.int .u8 0), .sc (.int .u8 0), .sc (.int .u8 0), .sc (.int .u8 0), .sc (.int .u8 0), .sc (.int .u8 0)]), some 32, true, 32⟩
theorem tik256 : tiOf Go.Proofs.Tryz.prog 256 = some ti256 := by kernel_rfl
def ti258 : TI := ⟨.other, 1, false, some (.sc (.nilFunc)), some 8, true, 8⟩
theorem tik258 : tiOf Go.Proofs.Tryz.prog 258 = some ti258 := by kernel_rfl
def ti259 : TI := ⟨.other, 1, false, some (.sc (.nilFunc)), some 8, true, 8⟩
theorem tik259 : tiOf Go.Proofs.Tryz.prog 259 = some ti259 := by kernel_rfl
def ti260 : TI := ⟨.array 32 5, 32, true, some (.agg [.sc (.int .u8 0), .sc (.int .u8 0), .sc (.int .u8 0), .sc (.int .u8 0), .sc (.int .u8 0), .sc (.int .u8 0), .sc (.int .u8 0), .sc (.int .u8 0), .sc (.int .u8 0), .sc (.int .u8 0), .sc (.int .u8 0), .sc (.int .u8 0), .sc (.int .u8 0), .sc (.int .u8 0), .sc (.int .u8 0), .sc (.int .u8 0), .sc (.int .u8 0), .sc (.int .u8 0), .sc (.int .u8 0), .sc (.int .u8 0), .sc (.int .u8 0), .sc (.int .u8 0), .sc (.int .u8 0), .sc (.int .u8 0), .sc (.int .u8 0), .sc (.int .u8 0), .sc (.int .u8 0), .sc (.int .u8 0), .sc (.int .u8 0), .sc (.int .u8 0), .sc (.int .u8 0), .sc (.int .u8 0)]), some 32, true, 32⟩
theorem tik260 : tiOf Go.Proofs.Tryz.prog 260 = some ti260 := by kernel_rfl
def ti261 : TI := ⟨.array 64 5, 64, true, some (.agg [.sc (.int .u8 0), .sc (.int .u8 0), .sc (.int .u8 0), .sc (.int .u8 0), .sc (.int .u8 0), .sc (.int .u8 0), .sc (.int .u8 0), .sc (.int .u8 0), .sc (.int .u8 0), .sc (.int .u8 0), .sc (.int .u8 0), .sc (.int .u8 0), .sc (.int .u8 0), .sc (.int .u8 0), .sc (.int .u8 0), .sc (.int .u8 0), .sc (.int .u8 0), .sc (.int .u8 0), .sc (.int .u8 0), .sc (.int .u8 0), .sc (.int .u8 0), .sc (.int .u8 0), .sc (.int .u8 0), .sc (.int .u8 0), .sc (.int .u8 0), .sc (.int .u8 0), .sc (.int .u8 0), .sc (.int .u8 0), .sc (.int .u8 0), .sc (.int .u8 0), .sc (.int .u8 0), .sc (.int .u8 0), .sc (.int .u8 0), .sc (.int .u8 0), .sc (.int .u8 0), .sc (.int .u8 0), .sc (.int .u8 0), .sc (.int .u8 0), .sc (.int .u8 0), .sc (.int .u8 0), .sc (.int .u8 0), .sc (.int .u8 0), .sc (.int .u8 0), .sc (.int .u8 0), .sc (.int .u8 0), .sc (.int .u8 0), .sc (.int .u8 0), .sc (.int .u8 0), .sc (.int .u8 0), .sc (.int .u8 0), .sc (.int .u8 0), .sc (.int .u8 0), .sc (.int .u8 0), .sc (.int .u8 0), .sc (.int .u8 0), .sc (.int .u8 0), .sc (.int .u8 0), .sc (.int .u8 0), .sc (.int .u8 0), .sc (.int .u8 0), .sc (.int .u8 0), .sc (.int .u8 0), .sc (.int .u8 0), .sc (.int .u8 0)]), some 64, true, 64⟩
theorem tik261 : tiOf Go.Proofs.Tryz.prog 261 = some ti261 := by kernel_rfl
def ti262 : TI := ⟨.struct [(0, 17), (1, 17), (2, 17), (3, 9)], 4, true, some (.agg [.sc (.pointer none), .sc (.pointer none), .sc (.pointer none), .sc (.string .empty)]), some 40, false, 40⟩
theorem tik262 : tiOf Go.Proofs.Tryz.prog 262 = some ti262 := by kernel_rfl
def ti263 : TI := ⟨.struct [(0, 17), (1, 17), (2, 17), (3, 9)], 4, true, some (.agg [.sc (.pointer none), .sc (.pointer none), .sc (.pointer none), .sc (.string .empty)]), some 40, false, 40⟩
theorem tik263 : tiOf Go.Proofs.Tryz.prog 263 = some ti263 := by kernel_rfl
def ti264 : TI := ⟨.array 0 16, 0, true, some (.agg []), none, true, 0⟩
theorem tik264 : tiOf Go.Proofs.Tryz.prog 264 = some ti264 := by kernel_rfl
def ti265 : TI := ⟨.struct [(0, 264)], 0, true, some (.agg []), none, false, 0⟩
theorem tik265 : tiOf Go.Proofs.Tryz.prog 265 = some ti265 := by kernel_rfl
def ti266 : TI := ⟨.struct [(0, 264)], 0, true, some (.agg []), none, false, 0⟩
theorem tik266 : tiOf Go.Proofs.Tryz.prog 266 = some ti266 := by kernel_rfl
def ti267 : TI := ⟨.other, 1, false, some (.sc (.nilFunc)), some 8, true, 8⟩
theorem tik267 : tiOf Go.Proofs.Tryz.prog 267 = some ti267 := by kernel_rfl
def ti268 : TI := ⟨.int .u8, 1, false, some (.sc (.int .u8 0)), some 1, true, 1⟩
theorem tik268 : tiOf Go.Proofs.Tryz.prog 268 = some ti268 := by kernel_rfl
def ti269 : TI := ⟨.int .u8, 1, false, some (.sc (.int .u8 0)), some 1, true, 1⟩
theorem tik269 : tiOf Go.Proofs.Tryz.prog 269 = some ti269 := by kernel_rfl
def ti270 : TI := ⟨.other, 1, false, some (.sc (.nilFunc)), some 8, true, 8⟩
theorem tik270 : tiOf Go.Proofs.Tryz.prog 270 = some ti270 := by kernel_rfl
def ti271 : TI := ⟨.int .i32, 1, false, some (.sc (.int .i32 0)), some 4, true, 4⟩
theorem tik271 : tiOf Go.Proofs.Tryz.prog 271 = some ti271 := by kernel_rfl
def ti272 : TI := ⟨.int .i32, 1, false, some (.sc (.int .i32 0)), some 4, true, 4⟩
theorem tik272 : tiOf Go.Proofs.Tryz.prog 272 = some ti272 := by kernel_rfl
def ti273 : TI := ⟨.struct [(0, 12), (1, 12), (2, 205), (3, 268), (4, 5), (5, 5), (6, 269), (7, 270), (8, 171), (9, 271), (10, 272)], 11, true, some (.agg [.sc (.int .u64 0), .sc (.int .u64 0), .sc (.int .u32 0), .sc (.int .u8 0), .sc (.int .u8 0), .sc (.int .u8 0), .sc (.int .u8 0), .sc (.nilFunc), .sc (.pointer none), .sc (.int .i32 0), .sc (.int .i32 0)]), some 48, false, 48⟩
theorem tik273 : tiOf Go.Proofs.Tryz.prog 273 = some ti273 := by kernel_rfl
def ti274 : TI := ⟨.struct [(0, 12), (1, 12), (2, 205), (3, 268), (4, 5), (5, 5), (6, 269), (7, 270), (8, 171), (9, 271), (10, 272)], 11, true, some (.agg [.sc (.int .u64 0), .sc (.int .u64 0), .sc (.int .u32 0), .sc (.int .u8 0), .sc (.int .u8 0), .sc (.int .u8 0), .sc (.int .u8 0), .sc (.nilFunc), .sc (.pointer none), .sc (.int .i32 0), .sc (.int .i32 0)]), some 48, false, 48⟩
theorem tik274 : tiOf Go.Proofs.Tryz.prog 274 = some ti274 := by kernel_rfl
def tabT : TT := (.node (.node (.node (.node (.node (.node (.node (.node .nil 1 ti1 .nil) 2 ti2 (.node .nil 3 ti3 .nil)) 4 ti4 (.node (.node .nil 5 ti5 .nil) 6 ti6 (.node .nil 7 ti7 .nil))) 8 ti8 (.node (.node (.node .nil 9 ti9 .nil) 10 ti10 (.node .nil 11 ti11 .nil)) 12 ti12 (.node (.node .nil 13 ti13 .nil) 14 ti14 (.node .nil 15 ti15 .nil)))) 16 ti16 (.node (.node (.node (.node .nil 17 ti17 .nil) 18 ti18 (.node .nil 19 ti19 .nil)) 20 ti20 (.node (.node .nil 21 ti21 .nil) 22 ti22 (.node .nil 23 ti23 .nil))) 24 ti24 (.node (.node (.node .nil 25 ti25 .nil) 26 ti26 (.node .nil 27 ti27 .nil)) 28 ti28 (.node (.node .nil 29 ti29 .nil) 31 ti31 (.node .nil 32 ti32 .nil))))) 33 ti33 (.node (.node (.node (.node (.node .nil 34 ti34 .nil) 35 ti35 (.node .nil 36 ti36 .nil)) 37 ti37 (.node (.node .nil 39 ti39 .nil) 40 ti40 (.node .nil 42 ti42 .nil))) 44 ti44 (.node (.node (.node .nil 45 ti45 .nil) 46 ti46 (.node .nil 47 ti47 .nil)) 48 ti48 (.node (.node .nil 49 ti49 .nil) 50 ti50 (.node .nil 51 ti51 .nil)))) 53 ti53 (.node (.node (.node (.node .nil 54 ti54 .nil) 56 ti56 (.node .nil 57 ti57 .nil)) 58 ti58 (.node (.node .nil 59 ti59 .nil) 60 ti60 (.node .nil 61 ti61 .nil))) 62 ti62 (.node (.node (.node .nil 63 ti63 .nil) 64 ti64 (.node .nil 65 ti65 .nil)) 66 ti66 (.node (.node .nil 68 ti68 .nil) 69 ti69 .nil))))) 70 ti70 (.node (.node (.node (.node (.node (.node .nil 71 ti71 .nil) 72 ti72 (.node .nil 73 ti73 .nil)) 74 ti74 (.node (.node .nil 75 ti75 .nil) 76 ti76 (.node .nil 77 ti77 .nil))) 78 ti78 (.node (.node (.node .nil 80 ti80 .nil) 81 ti81 (.node .nil 82 ti82 .nil)) 83 ti83 (.node (.node .nil 84 ti84 .nil) 85 ti85 (.node .nil 86 ti86 .nil)))) 87 ti87 (.node (.node (.node (.node .nil 89 ti89 .nil) 90 ti90 (.node .nil 92 ti92 .nil)) 93 ti93 (.node (.node .nil 94 ti94 .nil) 95 ti95 (.node .nil 96 ti96 .nil))) 97 ti97 (.node (.node (.node .nil 98 ti98 .nil) 99 ti99 (.node .nil 100 ti100 .nil)) 101 ti101 (.node (.node .nil 102 ti102 .nil) 103 ti103 (.node .nil 104 ti104 .nil))))) 105 ti105 (.node (.node (.node (.node (.node .nil 107 ti107 .nil) 108 ti108 (.node .nil 109 ti109 .nil)) 110 ti110 (.node (.node .nil 111 ti111 .nil) 112 ti112 (.node .nil 113 ti113 .nil))) 114 ti114 (.node (.node (.node .nil 115 ti115 .nil) 116 ti116 (.node .nil 117 ti117 .nil)) 118 ti118 (.node (.node .nil 119 ti119 .nil) 120 ti120 (.node .nil 121 ti121 .nil)))) 122 ti122 (.node (.node (.node (.node .nil 123 ti123 .nil) 124 ti124 (.node .nil 125 ti125 .nil)) 126 ti126 (.node (.node .nil 127 ti127 .nil) 128 ti128 (.node .nil 129 ti129 .nil))) 130 ti130 (.node (.node (.node .nil 131 ti131 .nil) 132 ti132 (.node .nil 133 ti133 .nil)) 134 ti134 (.node (.node .nil 135 ti135 .nil) 136 ti136 .nil)))))) 137 ti137 (.node (.node (.node (.node (.node (.node (.node .nil 138 ti138 .nil) 139 ti139 (.node .nil 140 ti140 .nil)) 141 ti141 (.node (.node .nil 142 ti142 .nil) 143 ti143 (.node .nil 144 ti144 .nil))) 145 ti145 (.node (.node (.node .nil 147 ti147 .nil) 149 ti149 (.node .nil 150 ti150 .nil)) 151 ti151 (.node (.node .nil 152 ti152 .nil) 153 ti153 (.node .nil 154 ti154 .nil)))) 155 ti155 (.node (.node (.node (.node .nil 156 ti156 .nil) 157 ti157 (.node .nil 158 ti158 .nil)) 159 ti159 (.node (.node .nil 160 ti160 .nil) 161 ti161 (.node .nil 162 ti162 .nil))) 163 ti163 (.node (.node (.node .nil 164 ti164 .nil) 165 ti165 (.node .nil 166 ti166 .nil)) 167 ti167 (.node (.node .nil 168 ti168 .nil) 169 ti169 (.node .nil 170 ti170 .nil))))) 171 ti171 (.node (.node (.node (.node (.node .nil 172 ti172 .nil) 173 ti173 (.node .nil 174 ti174 .nil)) 175 ti175 (.node (.node .nil 176 ti176 .nil) 177 ti177 (.node .nil 178 ti178 .nil))) 179 ti179 (.node (.node (.node .nil 180 ti180 .nil) 181 ti181 (.node .nil 182 ti182 .nil)) 183 ti183 (.node (.node .nil 184 ti184 .nil) 185 ti185 (.node .nil 186 ti186 .nil)))) 187 ti187 (.node (.node (.node (.node .nil 188 ti188 .nil) 189 ti189 (.node .nil 191 ti191 .nil)) 192 ti192 (.node (.node .nil 193 ti193 .nil) 194 ti194 (.node .nil 195 ti195 .nil))) 196 ti196 (.node (.node (.node .nil 197 ti197 .nil) 199 ti199 (.node .nil 200 ti200 .nil)) 201 ti201 (.node (.node .nil 203 ti203 .nil) 204 ti204 .nil))))) 205 ti205 (.node (.node (.node (.node (.node (.node .nil 206 ti206 .nil) 207 ti207 (.node .nil 208 ti208 .nil)) 209 ti209 (.node (.node .nil 210 ti210 .nil) 211 ti211 (.node .nil 212 ti212 .nil))) 213 ti213 (.node (.node (.node .nil 215 ti215 .nil) 217 ti217 (.node .nil 218 ti218 .nil)) 219 ti219 (.node (.node .nil 220 ti220 .nil) 221 ti221 (.node .nil 222 ti222 .nil)))) 223 ti223 (.node (.node (.node (.node .nil 224 ti224 .nil) 225 ti225 (.node .nil 226 ti226 .nil)) 227 ti227 (.node (.node .nil 228 ti228 .nil) 229 ti229 (.node .nil 230 ti230 .nil))) 231 ti231 (.node (.node (.node .nil 232 ti232 .nil) 233 ti233 (.node .nil 234 ti234 .nil)) 235 ti235 (.node (.node .nil 236 ti236 .nil) 237 ti237 (.node .nil 239 ti239 .nil))))) 240 ti240 (.node (.node (.node (.node (.node .nil 241 ti241 .nil) 242 ti242 (.node .nil 243 ti243 .nil)) 244 ti244 (.node (.node .nil 245 ti245 .nil) 247 ti247 (.node .nil 248 ti248 .nil))) 249 ti249 (.node (.node (.node .nil 250 ti250 .nil) 251 ti251 (.node .nil 254 ti254 .nil)) 255 ti255 (.node (.node .nil 256 ti256 .nil) 258 ti258 (.node .nil 259 ti259 .nil)))) 260 ti260 (.node (.node (.node (.node .nil 261 ti261 .nil) 262 ti262 (.node .nil 263 ti263 .nil)) 264 ti264 (.node (.node .nil 265 ti265 .nil) 266 ti266 (.node .nil 267 ti267 .nil))) 268 ti268 (.node (.node (.node .nil 269 ti269 .nil) 270 ti270 (.node .nil 271 ti271 .nil)) 272 ti272 (.node (.node .nil 273 ti273 .nil) 274 ti274 .nil)))))))
theorem tabOk : tabT.Ok Go.Proofs.Tryz.prog := ⟨tik137, ⟨tik70, ⟨tik33, ⟨tik16, ⟨tik8, ⟨tik4, ⟨tik2, ⟨tik1, trivial, trivial⟩, ⟨tik3, trivial, trivial⟩⟩, ⟨tik6, ⟨tik5, trivial, trivial⟩, ⟨tik7, trivial, trivial⟩⟩⟩, ⟨tik12, ⟨tik10, ⟨tik9, trivial, trivial⟩, ⟨tik11, trivial, trivial⟩⟩, ⟨tik14, ⟨tik13, trivial, trivial⟩, ⟨tik15, trivial, trivial⟩⟩⟩⟩, ⟨tik24, ⟨tik20, ⟨tik18, ⟨tik17, trivial, trivial⟩, ⟨tik19, trivial, trivial⟩⟩, ⟨tik22, ⟨tik21, trivial, trivial⟩, ⟨tik23, trivial, trivial⟩⟩⟩, ⟨tik28, ⟨tik26, ⟨tik25, trivial, trivial⟩, ⟨tik27, trivial, trivial⟩⟩, ⟨tik31, ⟨tik29, trivial, trivial⟩, ⟨tik32, trivial, trivial⟩⟩⟩⟩⟩, ⟨tik53, ⟨tik44, ⟨tik37, ⟨tik35, ⟨tik34, trivial, trivial⟩, ⟨tik36, trivial, trivial⟩⟩, ⟨tik40, ⟨tik39, trivial, trivial⟩, ⟨tik42, trivial, trivial⟩⟩⟩, ⟨tik48, ⟨tik46, ⟨tik45, trivial, trivial⟩, ⟨tik47, trivial, trivial⟩⟩, ⟨tik50, ⟨tik49, trivial, trivial⟩, ⟨tik51, trivial, trivial⟩⟩⟩⟩, ⟨tik62, ⟨tik58, ⟨tik56, ⟨tik54, trivial, trivial⟩, ⟨tik57, trivial, trivial⟩⟩, ⟨tik60, ⟨tik59, trivial, trivial⟩, ⟨tik61, trivial, trivial⟩⟩⟩, ⟨tik66, ⟨tik64, ⟨tik63, trivial, trivial⟩, ⟨tik65, trivial, trivial⟩⟩, ⟨tik69, ⟨tik68, trivial, trivial⟩, trivial⟩⟩⟩⟩⟩, ⟨tik105, ⟨tik87, ⟨tik78, ⟨tik74, ⟨tik72, ⟨tik71, trivial, trivial⟩, ⟨tik73, trivial, trivial⟩⟩, ⟨tik76, ⟨tik75, trivial, trivial⟩, ⟨tik77, trivial, trivial⟩⟩⟩, ⟨tik83, ⟨tik81, ⟨tik80, trivial, trivial⟩, ⟨tik82, trivial, trivial⟩⟩, ⟨tik85, ⟨tik84, trivial, trivial⟩, ⟨tik86, trivial, trivial⟩⟩⟩⟩, ⟨tik97, ⟨tik93, ⟨tik90, ⟨tik89, trivial, trivial⟩, ⟨tik92, trivial, trivial⟩⟩, ⟨tik95, ⟨tik94, trivial, trivial⟩, ⟨tik96, trivial, trivial⟩⟩⟩, ⟨tik101, ⟨tik99, ⟨tik98, trivial, trivial⟩, ⟨tik100, trivial, trivial⟩⟩, ⟨tik103, ⟨tik102, trivial, trivial⟩, ⟨tik104, trivial, trivial⟩⟩⟩⟩⟩, ⟨tik122, ⟨tik114, ⟨tik110, ⟨tik108, ⟨tik107, trivial, trivial⟩, ⟨tik109, trivial, trivial⟩⟩, ⟨tik112, ⟨tik111, trivial, trivial⟩, ⟨tik113, trivial, trivial⟩⟩⟩, ⟨tik118, ⟨tik116, ⟨tik115, trivial, trivial⟩, ⟨tik117, trivial, trivial⟩⟩, ⟨tik120, ⟨tik119, trivial, trivial⟩, ⟨tik121, trivial, trivial⟩⟩⟩⟩, ⟨tik130, ⟨tik126, ⟨tik124, ⟨tik123, trivial, trivial⟩, ⟨tik125, trivial, trivial⟩⟩, ⟨tik128, ⟨tik127, trivial, trivial⟩, ⟨tik129, trivial, trivial⟩⟩⟩, ⟨tik134, ⟨tik132, ⟨tik131, trivial, trivial⟩, ⟨tik133, trivial, trivial⟩⟩, ⟨tik136, ⟨tik135, trivial, trivial⟩, trivial⟩⟩⟩⟩⟩⟩, ⟨tik205, ⟨tik171, ⟨tik155, ⟨tik145, ⟨tik141, ⟨tik139, ⟨tik138, trivial, trivial⟩, ⟨tik140, trivial, trivial⟩⟩, ⟨tik143, ⟨tik142, trivial, trivial⟩, ⟨tik144, trivial, trivial⟩⟩⟩, ⟨tik151, ⟨tik149, ⟨tik147, trivial, trivial⟩, ⟨tik150, trivial, trivial⟩⟩, ⟨tik153, ⟨tik152, trivial, trivial⟩, ⟨tik154, trivial, trivial⟩⟩⟩⟩, ⟨tik163, ⟨tik159, ⟨tik157, ⟨tik156, trivial, trivial⟩, ⟨tik158, trivial, trivial⟩⟩, ⟨tik161, ⟨tik160, trivial, trivial⟩, ⟨tik162, trivial, trivial⟩⟩⟩, ⟨tik167, ⟨tik165, ⟨tik164, trivial, trivial⟩, ⟨tik166, trivial, trivial⟩⟩, ⟨tik169, ⟨tik168, trivial, trivial⟩, ⟨tik170, trivial, trivial⟩⟩⟩⟩⟩, ⟨tik187, ⟨tik179, ⟨tik175, ⟨tik173, ⟨tik172, trivial, trivial⟩, ⟨tik174, trivial, trivial⟩⟩, ⟨tik177, ⟨tik176, trivial, trivial⟩, ⟨tik178, trivial, trivial⟩⟩⟩, ⟨tik183, ⟨tik181, ⟨tik180, trivial, trivial⟩, ⟨tik182, trivial, trivial⟩⟩, ⟨tik185, ⟨tik184, trivial, trivial⟩, ⟨tik186, trivial, trivial⟩⟩⟩⟩, ⟨tik196, ⟨tik192, ⟨tik189, ⟨tik188, trivial, trivial⟩, ⟨tik191, trivial, trivial⟩⟩, ⟨tik194, ⟨tik193, trivial, trivial⟩, ⟨tik195, trivial, trivial⟩⟩⟩, ⟨tik201, ⟨tik199, ⟨tik197, trivial, trivial⟩, ⟨tik200, trivial, trivial⟩⟩, ⟨tik204, ⟨tik203, trivial, trivial⟩, trivial⟩⟩⟩⟩⟩, ⟨tik240, ⟨tik223, ⟨tik213, ⟨tik209, ⟨tik207, ⟨tik206, trivial, trivial⟩, ⟨tik208, trivial, trivial⟩⟩, ⟨tik211, ⟨tik210, trivial, trivial⟩, ⟨tik212, trivial, trivial⟩⟩⟩, ⟨tik219, ⟨tik217, ⟨tik215, trivial, trivial⟩, ⟨tik218, trivial, trivial⟩⟩, ⟨tik221, ⟨tik220, trivial, trivial⟩, ⟨tik222, trivial, trivial⟩⟩⟩⟩, ⟨tik231, ⟨tik227, ⟨tik225, ⟨tik224, trivial, trivial⟩, ⟨tik226, trivial, trivial⟩⟩, ⟨tik229, ⟨tik228, trivial, trivial⟩, ⟨tik230, trivial, trivial⟩⟩⟩, ⟨tik235, ⟨tik233, ⟨tik232, trivial, trivial⟩, ⟨tik234, trivial, trivial⟩⟩, ⟨tik237, ⟨tik236, trivial, trivial⟩, ⟨tik239, trivial, trivial⟩⟩⟩⟩⟩, ⟨tik260, ⟨tik249, ⟨tik244, ⟨tik242, ⟨tik241, trivial, trivial⟩, ⟨tik243, trivial, trivial⟩⟩, ⟨tik247, ⟨tik245, trivial, trivial⟩, ⟨tik248, trivial, trivial⟩⟩⟩, ⟨tik255, ⟨tik251, ⟨tik250, trivial, trivial⟩, ⟨tik254, trivial, trivial⟩⟩, ⟨tik258, ⟨tik256, trivial, trivial⟩, ⟨tik259, trivial, trivial⟩⟩⟩⟩, ⟨tik268, ⟨tik264, ⟨tik262, ⟨tik261, trivial, trivial⟩, ⟨tik263, trivial, trivial⟩⟩, ⟨tik266, ⟨tik265, trivial, trivial⟩, ⟨tik267, trivial, trivial⟩⟩⟩, ⟨tik272, ⟨tik270, ⟨tik269, trivial, trivial⟩, ⟨tik271, trivial, trivial⟩⟩, ⟨tik274, ⟨tik273, trivial, trivial⟩, trivial⟩⟩⟩⟩⟩⟩⟩
def tab (t : TypeId) : Option TI := tabT.get t
end Go.Proofs.Ax.Tryz
