import Derived.Test.YtdfgphfijfocoaaDoorProg
import Derived.Test.YtdfgphfijfocoaaDoorAxE
set_option maxRecDepth 10000
namespace Go.Proofs.Ax.Tryd
open Go Go.Proofs.Ax
def ti1 : TI := ⟨.other, 1, false, some (.sc (.nilFunc)), some 8, true, 8⟩
theorem tik1 : tiOf Go.Proofs.Tryd.prog 1 = some ti1 := by kernel_rfl
def ti2 : TI := ⟨.int .i64, 1, false, some (.sc (.int .i64 0)), some 8, true, 8⟩
theorem tik2 : tiOf Go.Proofs.Tryd.prog 2 = some ti2 := by kernel_rfl
def ti3 : TI := ⟨.int .i64, 1, false, some (.sc (.int .i64 0)), some 8, true, 8⟩
theorem tik3 : tiOf Go.Proofs.Tryd.prog 3 = some ti3 := by kernel_rfl
def ti4 : TI := ⟨.bool, 1, false, some (.sc (.bool false)), some 1, true, 1⟩
theorem tik4 : tiOf Go.Proofs.Tryd.prog 4 = some ti4 := by kernel_rfl
def ti5 : TI := ⟨.int .u8, 1, false, some (.sc (.int .u8 0)), some 1, true, 1⟩
theorem tik5 : tiOf Go.Proofs.Tryd.prog 5 = some ti5 := by kernel_rfl
def ti6 : TI := ⟨.int .u8, 1, false, some (.sc (.int .u8 0)), some 1, true, 1⟩
theorem tik6 : tiOf Go.Proofs.Tryd.prog 6 = some ti6 := by kernel_rfl
def ti7 : TI := ⟨.struct [(0, 2), (1, 3), (2, 4), (3, 6)], 4, true, some (.agg [.sc (.int .i64 0), .sc (.int .i64 0), .sc (.bool false), .sc (.int .u8 0)]), some 24, true, 24⟩
theorem tik7 : tiOf Go.Proofs.Tryd.prog 7 = some ti7 := by kernel_rfl
def ti8 : TI := ⟨.struct [(0, 2), (1, 3), (2, 4), (3, 6)], 4, true, some (.agg [.sc (.int .i64 0), .sc (.int .i64 0), .sc (.bool false), .sc (.int .u8 0)]), some 24, true, 24⟩
theorem tik8 : tiOf Go.Proofs.Tryd.prog 8 = some ti8 := by kernel_rfl
def ti9 : TI := ⟨.str, 1, false, some (.sc (.string .empty)), some 16, true, 16⟩
theorem tik9 : tiOf Go.Proofs.Tryd.prog 9 = some ti9 := by kernel_rfl
def ti10 : TI := ⟨.str, 1, false, some (.sc (.string .empty)), some 16, true, 16⟩
theorem tik10 : tiOf Go.Proofs.Tryd.prog 10 = some ti10 := by kernel_rfl
def ti11 : TI := ⟨.str, 1, false, some (.sc (.string .empty)), some 16, true, 16⟩
theorem tik11 : tiOf Go.Proofs.Tryd.prog 11 = some ti11 := by kernel_rfl
def ti12 : TI := ⟨.int .u64, 1, false, some (.sc (.int .u64 0)), some 8, true, 8⟩
theorem tik12 : tiOf Go.Proofs.Tryd.prog 12 = some ti12 := by kernel_rfl
def ti13 : TI := ⟨.struct [(0, 9), (1, 12)], 2, true, some (.agg [.sc (.string .empty), .sc (.int .u64 0)]), some 24, false, 24⟩
theorem tik13 : tiOf Go.Proofs.Tryd.prog 13 = some ti13 := by kernel_rfl
def ti14 : TI := ⟨.struct [(0, 9), (1, 12)], 2, true, some (.agg [.sc (.string .empty), .sc (.int .u64 0)]), some 24, false, 24⟩
theorem tik14 : tiOf Go.Proofs.Tryd.prog 14 = some ti14 := by kernel_rfl
def ti15 : TI := ⟨.other, 1, false, some (.sc (.pointer none)), some 8, true, 8⟩
theorem tik15 : tiOf Go.Proofs.Tryd.prog 15 = some ti15 := by kernel_rfl
def ti16 : TI := ⟨.other, 1, false, some (.sc (.pointer none)), some 8, true, 8⟩
theorem tik16 : tiOf Go.Proofs.Tryd.prog 16 = some ti16 := by kernel_rfl
def ti17 : TI := ⟨.other, 1, false, some (.sc (.pointer none)), some 8, true, 8⟩
theorem tik17 : tiOf Go.Proofs.Tryd.prog 17 = some ti17 := by kernel_rfl
def ti18 : TI := ⟨.struct [(0, 17)], 1, true, some (.agg [.sc (.pointer none)]), some 8, false, 8⟩
theorem tik18 : tiOf Go.Proofs.Tryd.prog 18 = some ti18 := by kernel_rfl
def ti19 : TI := ⟨.struct [(0, 17)], 1, true, some (.agg [.sc (.pointer none)]), some 8, false, 8⟩
theorem tik19 : tiOf Go.Proofs.Tryd.prog 19 = some ti19 := by kernel_rfl
def ti20 : TI := ⟨.iface, 1, false, some (.sc (.nilIface)), some 16, true, 16⟩
theorem tik20 : tiOf Go.Proofs.Tryd.prog 20 = some ti20 := by kernel_rfl
def ti21 : TI := ⟨.int .i32, 1, false, some (.sc (.int .i32 0)), some 4, true, 4⟩
theorem tik21 : tiOf Go.Proofs.Tryd.prog 21 = some ti21 := by kernel_rfl
def ti22 : TI := ⟨.slice 3, 1, false, some (.sc (.slice none 0 0)), some 24, true, 24⟩
theorem tik22 : tiOf Go.Proofs.Tryd.prog 22 = some ti22 := by kernel_rfl
def ti23 : TI := ⟨.other, 1, false, some (.sc (.nilFunc)), some 8, true, 8⟩
theorem tik23 : tiOf Go.Proofs.Tryd.prog 23 = some ti23 := by kernel_rfl
def ti24 : TI := ⟨.int .i64, 1, false, some (.sc (.int .i64 0)), some 8, true, 8⟩
theorem tik24 : tiOf Go.Proofs.Tryd.prog 24 = some ti24 := by kernel_rfl
def ti26 : TI := ⟨.other, 1, false, some (.sc (.nilFunc)), some 8, true, 8⟩
theorem tik26 : tiOf Go.Proofs.Tryd.prog 26 = some ti26 := by kernel_rfl
def ti27 : TI := ⟨.struct [(0, 22), (1, 24)], 2, true, some (.agg [.sc (.slice none 0 0), .sc (.int .i64 0)]), some 32, true, 32⟩
theorem tik27 : tiOf Go.Proofs.Tryd.prog 27 = some ti27 := by kernel_rfl
def ti28 : TI := ⟨.struct [(0, 22), (1, 24)], 2, true, some (.agg [.sc (.slice none 0 0), .sc (.int .i64 0)]), some 32, true, 32⟩
theorem tik28 : tiOf Go.Proofs.Tryd.prog 28 = some ti28 := by kernel_rfl
def ti29 : TI := ⟨.other, 1, false, some (.sc (.nilFunc)), some 8, true, 8⟩
theorem tik29 : tiOf Go.Proofs.Tryd.prog 29 = some ti29 := by kernel_rfl
def ti30 : TI := ⟨.other, 1, false, some (.sc (.nilFunc)), some 8, true, 8⟩
theorem tik30 : tiOf Go.Proofs.Tryd.prog 30 = some ti30 := by kernel_rfl
def ti31 : TI := ⟨.other, 1, false, some (.sc (.nilFunc)), some 8, true, 8⟩
theorem tik31 : tiOf Go.Proofs.Tryd.prog 31 = some ti31 := by kernel_rfl
def ti32 : TI := ⟨.other, 1, false, some (.sc (.nilFunc)), some 8, true, 8⟩
theorem tik32 : tiOf Go.Proofs.Tryd.prog 32 = some ti32 := by kernel_rfl
def ti33 : TI := ⟨.slice 39, 1, false, some (.sc (.slice none 0 0)), some 24, true, 24⟩
theorem tik33 : tiOf Go.Proofs.Tryd.prog 33 = some ti33 := by kernel_rfl
def ti34 : TI := ⟨.slice 75, 1, false, some (.sc (.slice none 0 0)), some 24, true, 24⟩
theorem tik34 : tiOf Go.Proofs.Tryd.prog 34 = some ti34 := by kernel_rfl
def ti35 : TI := ⟨.other, 1, false, some (.sc (.nilFunc)), some 8, true, 8⟩
theorem tik35 : tiOf Go.Proofs.Tryd.prog 35 = some ti35 := by kernel_rfl
def ti37 : TI := ⟨.other, 1, false, some (.sc (.nilFunc)), some 8, true, 8⟩
theorem tik37 : tiOf Go.Proofs.Tryd.prog 37 = some ti37 := by kernel_rfl
def ti38 : TI := ⟨.struct [(0, 3), (1, 3), (2, 3), (3, 3), (4, 3), (5, 3), (6, 3)], 7, true, some (.agg [.sc (.int .i64 0), .sc (.int .i64 0), .sc (.int .i64 0), .sc (.int .i64 0), .sc (.int .i64 0), .sc (.int .i64 0), .sc (.int .i64 0)]), some 56, true, 56⟩
theorem tik38 : tiOf Go.Proofs.Tryd.prog 38 = some ti38 := by kernel_rfl
def ti39 : TI := ⟨.struct [(0, 3), (1, 3), (2, 3), (3, 3), (4, 3), (5, 3), (6, 3)], 7, true, some (.agg [.sc (.int .i64 0), .sc (.int .i64 0), .sc (.int .i64 0), .sc (.int .i64 0), .sc (.int .i64 0), .sc (.int .i64 0), .sc (.int .i64 0)]), some 56, true, 56⟩
theorem tik39 : tiOf Go.Proofs.Tryd.prog 39 = some ti39 := by kernel_rfl
def ti41 : TI := ⟨.other, 1, false, some (.sc (.nilFunc)), some 8, true, 8⟩
theorem tik41 : tiOf Go.Proofs.Tryd.prog 41 = some ti41 := by kernel_rfl
def ti42 : TI := ⟨.other, 1, false, some (.sc (.nilFunc)), some 8, true, 8⟩
theorem tik42 : tiOf Go.Proofs.Tryd.prog 42 = some ti42 := by kernel_rfl
def ti43 : TI := ⟨.other, 1, false, some (.sc (.nilFunc)), some 8, true, 8⟩
theorem tik43 : tiOf Go.Proofs.Tryd.prog 43 = some ti43 := by kernel_rfl
def ti44 : TI := ⟨.struct [(0, 3), (1, 3)], 2, true, some (.agg [.sc (.int .i64 0), .sc (.int .i64 0)]), some 16, true, 16⟩
theorem tik44 : tiOf Go.Proofs.Tryd.prog 44 = some ti44 := by kernel_rfl
def ti45 : TI := ⟨.struct [(0, 3), (1, 3)], 2, true, some (.agg [.sc (.int .i64 0), .sc (.int .i64 0)]), some 16, true, 16⟩
theorem tik45 : tiOf Go.Proofs.Tryd.prog 45 = some ti45 := by kernel_rfl
def ti46 : TI := ⟨.slice 78, 1, false, some (.sc (.slice none 0 0)), some 24, true, 24⟩
theorem tik46 : tiOf Go.Proofs.Tryd.prog 46 = some ti46 := by kernel_rfl
def ti48 : TI := ⟨.other, 1, false, some (.sc (.nilFunc)), some 8, true, 8⟩
theorem tik48 : tiOf Go.Proofs.Tryd.prog 48 = some ti48 := by kernel_rfl
def ti49 : TI := ⟨.other, 1, false, some (.sc (.nilFunc)), some 8, true, 8⟩
theorem tik49 : tiOf Go.Proofs.Tryd.prog 49 = some ti49 := by kernel_rfl
def ti50 : TI := ⟨.other, 1, false, some (.sc (.nilFunc)), some 8, true, 8⟩
theorem tik50 : tiOf Go.Proofs.Tryd.prog 50 = some ti50 := by kernel_rfl
def ti51 : TI := ⟨.other, 1, false, some (.sc (.nilFunc)), some 8, true, 8⟩
theorem tik51 : tiOf Go.Proofs.Tryd.prog 51 = some ti51 := by kernel_rfl
def ti52 : TI := ⟨.other, 1, false, some (.sc (.nilFunc)), some 8, true, 8⟩
theorem tik52 : tiOf Go.Proofs.Tryd.prog 52 = some ti52 := by kernel_rfl
def ti53 : TI := ⟨.other, 1, false, some (.sc (.nilFunc)), some 8, true, 8⟩
theorem tik53 : tiOf Go.Proofs.Tryd.prog 53 = some ti53 := by kernel_rfl
def ti54 : TI := ⟨.other, 1, false, some (.sc (.nilFunc)), some 8, true, 8⟩
theorem tik54 : tiOf Go.Proofs.Tryd.prog 54 = some ti54 := by kernel_rfl
def ti55 : TI := ⟨.other, 1, false, some (.sc (.nilFunc)), some 8, true, 8⟩
theorem tik55 : tiOf Go.Proofs.Tryd.prog 55 = some ti55 := by kernel_rfl
def ti56 : TI := ⟨.other, 1, false, some (.sc (.nilFunc)), some 8, true, 8⟩
theorem tik56 : tiOf Go.Proofs.Tryd.prog 56 = some ti56 := by kernel_rfl
def ti57 : TI := ⟨.other, 1, false, some (.sc (.nilFunc)), some 8, true, 8⟩
theorem tik57 : tiOf Go.Proofs.Tryd.prog 57 = some ti57 := by kernel_rfl
def ti58 : TI := ⟨.other, 1, false, some (.sc (.nilFunc)), some 8, true, 8⟩
theorem tik58 : tiOf Go.Proofs.Tryd.prog 58 = some ti58 := by kernel_rfl
def ti59 : TI := ⟨.other, 1, false, some (.sc (.nilFunc)), some 8, true, 8⟩
theorem tik59 : tiOf Go.Proofs.Tryd.prog 59 = some ti59 := by kernel_rfl
def ti60 : TI := ⟨.other, 1, false, some (.sc (.nilFunc)), some 8, true, 8⟩
theorem tik60 : tiOf Go.Proofs.Tryd.prog 60 = some ti60 := by kernel_rfl
def ti61 : TI := ⟨.other, 1, false, some (.sc (.nilFunc)), some 8, true, 8⟩
theorem tik61 : tiOf Go.Proofs.Tryd.prog 61 = some ti61 := by kernel_rfl
def ti62 : TI := ⟨.other, 1, false, some (.sc (.nilFunc)), some 8, true, 8⟩
theorem tik62 : tiOf Go.Proofs.Tryd.prog 62 = some ti62 := by kernel_rfl
def ti64 : TI := ⟨.other, 1, false, some (.sc (.nilFunc)), some 8, true, 8⟩
theorem tik64 : tiOf Go.Proofs.Tryd.prog 64 = some ti64 := by kernel_rfl
def ti65 : TI := ⟨.slice 4, 1, false, some (.sc (.slice none 0 0)), some 24, true, 24⟩
theorem tik65 : tiOf Go.Proofs.Tryd.prog 65 = some ti65 := by kernel_rfl
def ti66 : TI := ⟨.int .u64, 1, false, some (.sc (.int .u64 0)), some 8, true, 8⟩
theorem tik66 : tiOf Go.Proofs.Tryd.prog 66 = some ti66 := by kernel_rfl
def ti68 : TI := ⟨.other, 1, false, some (.sc (.nilFunc)), some 8, true, 8⟩
theorem tik68 : tiOf Go.Proofs.Tryd.prog 68 = some ti68 := by kernel_rfl
def ti70 : TI := ⟨.other, 1, false, some (.sc (.nilFunc)), some 8, true, 8⟩
theorem tik70 : tiOf Go.Proofs.Tryd.prog 70 = some ti70 := by kernel_rfl
def ti71 : TI := ⟨.other, 1, false, some (.sc (.nilFunc)), some 8, true, 8⟩
theorem tik71 : tiOf Go.Proofs.Tryd.prog 71 = some ti71 := by kernel_rfl
def ti72 : TI := ⟨.other, 1, false, some (.sc (.nilFunc)), some 8, true, 8⟩
theorem tik72 : tiOf Go.Proofs.Tryd.prog 72 = some ti72 := by kernel_rfl
def ti73 : TI := ⟨.other, 1, false, some (.sc (.nilFunc)), some 8, true, 8⟩
theorem tik73 : tiOf Go.Proofs.Tryd.prog 73 = some ti73 := by kernel_rfl
def ti74 : TI := ⟨.struct [(0, 3), (1, 3), (2, 3), (3, 22)], 4, true, some (.agg [.sc (.int .i64 0), .sc (.int .i64 0), .sc (.int .i64 0), .sc (.slice none 0 0)]), some 48, true, 48⟩
theorem tik74 : tiOf Go.Proofs.Tryd.prog 74 = some ti74 := by kernel_rfl
def ti75 : TI := ⟨.struct [(0, 3), (1, 3), (2, 3), (3, 22)], 4, true, some (.agg [.sc (.int .i64 0), .sc (.int .i64 0), .sc (.int .i64 0), .sc (.slice none 0 0)]), some 48, true, 48⟩
theorem tik75 : tiOf Go.Proofs.Tryd.prog 75 = some ti75 := by kernel_rfl
def ti76 : TI := ⟨.other, 1, false, some (.sc (.nilFunc)), some 8, true, 8⟩
theorem tik76 : tiOf Go.Proofs.Tryd.prog 76 = some ti76 := by kernel_rfl
def ti77 : TI := ⟨.struct [(0, 3), (1, 3), (2, 3), (3, 3), (4, 3)], 5, true, some (.agg [.sc (.int .i64 0), .sc (.int .i64 0), .sc (.int .i64 0), .sc (.int .i64 0), .sc (.int .i64 0)]), some 40, true, 40⟩
theorem tik77 : tiOf Go.Proofs.Tryd.prog 77 = some ti77 := by kernel_rfl
def ti78 : TI := ⟨.struct [(0, 3), (1, 3), (2, 3), (3, 3), (4, 3)], 5, true, some (.agg [.sc (.int .i64 0), .sc (.int .i64 0), .sc (.int .i64 0), .sc (.int .i64 0), .sc (.int .i64 0)]), some 40, true, 40⟩
theorem tik78 : tiOf Go.Proofs.Tryd.prog 78 = some ti78 := by kernel_rfl
def ti79 : TI := ⟨.other, 1, false, some (.sc (.nilFunc)), some 8, true, 8⟩
theorem tik79 : tiOf Go.Proofs.Tryd.prog 79 = some ti79 := by kernel_rfl
def ti80 : TI := ⟨.other, 1, false, some (.sc (.nilFunc)), some 8, true, 8⟩
theorem tik80 : tiOf Go.Proofs.Tryd.prog 80 = some ti80 := by kernel_rfl
def ti82 : TI := ⟨.other, 1, false, some (.sc (.nilFunc)), some 8, true, 8⟩
theorem tik82 : tiOf Go.Proofs.Tryd.prog 82 = some ti82 := by kernel_rfl
def ti84 : TI := ⟨.other, 1, false, some (.sc (.nilFunc)), some 8, true, 8⟩
theorem tik84 : tiOf Go.Proofs.Tryd.prog 84 = some ti84 := by kernel_rfl
def ti85 : TI := ⟨.slice 89, 1, false, some (.sc (.slice none 0 0)), some 24, true, 24⟩
theorem tik85 : tiOf Go.Proofs.Tryd.prog 85 = some ti85 := by kernel_rfl
def ti87 : TI := ⟨.other, 1, false, some (.sc (.nilFunc)), some 8, true, 8⟩
theorem tik87 : tiOf Go.Proofs.Tryd.prog 87 = some ti87 := by kernel_rfl
def ti88 : TI := ⟨.other, 1, false, some (.sc (.nilFunc)), some 8, true, 8⟩
theorem tik88 : tiOf Go.Proofs.Tryd.prog 88 = some ti88 := by kernel_rfl
def ti89 : TI := ⟨.array 2 3, 2, true, some (.agg [.sc (.int .i64 0), .sc (.int .i64 0)]), some 16, true, 16⟩
theorem tik89 : tiOf Go.Proofs.Tryd.prog 89 = some ti89 := by kernel_rfl
def ti90 : TI := ⟨.other, 1, false, some (.sc (.nilFunc)), some 8, true, 8⟩
theorem tik90 : tiOf Go.Proofs.Tryd.prog 90 = some ti90 := by kernel_rfl
def ti91 : TI := ⟨.other, 1, false, some (.sc (.nilFunc)), some 8, true, 8⟩
theorem tik91 : tiOf Go.Proofs.Tryd.prog 91 = some ti91 := by kernel_rfl
def ti92 : TI := ⟨.other, 1, false, some (.sc (.nilFunc)), some 8, true, 8⟩
theorem tik92 : tiOf Go.Proofs.Tryd.prog 92 = some ti92 := by kernel_rfl
def ti94 : TI := ⟨.other, 1, false, some (.sc (.nilFunc)), some 8, true, 8⟩
theorem tik94 : tiOf Go.Proofs.Tryd.prog 94 = some ti94 := by kernel_rfl
def ti95 : TI := ⟨.other, 1, false, some (.sc (.nilFunc)), some 8, true, 8⟩
theorem tik95 : tiOf Go.Proofs.Tryd.prog 95 = some ti95 := by kernel_rfl
def ti96 : TI := ⟨.other, 1, false, some (.sc (.nilFunc)), some 8, true, 8⟩
theorem tik96 : tiOf Go.Proofs.Tryd.prog 96 = some ti96 := by kernel_rfl
def ti97 : TI := ⟨.other, 1, false, some (.sc (.nilFunc)), some 8, true, 8⟩
theorem tik97 : tiOf Go.Proofs.Tryd.prog 97 = some ti97 := by kernel_rfl
def ti98 : TI := ⟨.other, 1, false, some (.sc (.nilFunc)), some 8, true, 8⟩
theorem tik98 : tiOf Go.Proofs.Tryd.prog 98 = some ti98 := by kernel_rfl
def ti99 : TI := ⟨.other, 1, false, some (.sc (.nilFunc)), some 8, true, 8⟩
theorem tik99 : tiOf Go.Proofs.Tryd.prog 99 = some ti99 := by kernel_rfl
def ti100 : TI := ⟨.other, 1, false, some (.sc (.nilFunc)), some 8, true, 8⟩
theorem tik100 : tiOf Go.Proofs.Tryd.prog 100 = some ti100 := by kernel_rfl
def ti101 : TI := ⟨.other, 1, false, some (.sc (.nilFunc)), some 8, true, 8⟩
theorem tik101 : tiOf Go.Proofs.Tryd.prog 101 = some ti101 := by kernel_rfl
def ti102 : TI := ⟨.other, 1, false, some (.sc (.nilFunc)), some 8, true, 8⟩
theorem tik102 : tiOf Go.Proofs.Tryd.prog 102 = some ti102 := by kernel_rfl
def ti103 : TI := ⟨.other, 1, false, some (.sc (.nilFunc)), some 8, true, 8⟩
theorem tik103 : tiOf Go.Proofs.Tryd.prog 103 = some ti103 := by kernel_rfl
def ti104 : TI := ⟨.other, 1, false, some (.sc (.nilFunc)), some 8, true, 8⟩
theorem tik104 : tiOf Go.Proofs.Tryd.prog 104 = some ti104 := by kernel_rfl
def ti105 : TI := ⟨.other, 1, false, some (.sc (.nilFunc)), some 8, true, 8⟩
theorem tik105 : tiOf Go.Proofs.Tryd.prog 105 = some ti105 := by kernel_rfl
def ti106 : TI := ⟨.other, 1, false, some (.sc (.nilFunc)), some 8, true, 8⟩
theorem tik106 : tiOf Go.Proofs.Tryd.prog 106 = some ti106 := by kernel_rfl
def ti107 : TI := ⟨.other, 1, false, some (.sc (.nilFunc)), some 8, true, 8⟩
theorem tik107 : tiOf Go.Proofs.Tryd.prog 107 = some ti107 := by kernel_rfl
def ti108 : TI := ⟨.other, 1, false, some (.sc (.nilFunc)), some 8, true, 8⟩
theorem tik108 : tiOf Go.Proofs.Tryd.prog 108 = some ti108 := by kernel_rfl
def ti109 : TI := ⟨.map 114 46, 1, false, some (.sc (.map none)), some 8, true, 8⟩
theorem tik109 : tiOf Go.Proofs.Tryd.prog 109 = some ti109 := by kernel_rfl
def ti110 : TI := ⟨.other, 1, false, some (.sc (.nilFunc)), some 8, true, 8⟩
theorem tik110 : tiOf Go.Proofs.Tryd.prog 110 = some ti110 := by kernel_rfl
def ti111 : TI := ⟨.slice 114, 1, false, some (.sc (.slice none 0 0)), some 24, true, 24⟩
theorem tik111 : tiOf Go.Proofs.Tryd.prog 111 = some ti111 := by kernel_rfl
def ti112 : TI := ⟨.other, 1, false, some (.sc (.nilFunc)), some 8, true, 8⟩
theorem tik112 : tiOf Go.Proofs.Tryd.prog 112 = some ti112 := by kernel_rfl
def ti113 : TI := ⟨.struct [(0, 3), (1, 3)], 2, true, some (.agg [.sc (.int .i64 0), .sc (.int .i64 0)]), some 16, true, 16⟩
theorem tik113 : tiOf Go.Proofs.Tryd.prog 113 = some ti113 := by kernel_rfl
def ti114 : TI := ⟨.struct [(0, 3), (1, 3)], 2, true, some (.agg [.sc (.int .i64 0), .sc (.int .i64 0)]), some 16, true, 16⟩
theorem tik114 : tiOf Go.Proofs.Tryd.prog 114 = some ti114 := by kernel_rfl
def ti115 : TI := ⟨.other, 1, false, some (.sc (.pointer none)), some 8, true, 8⟩
theorem tik115 : tiOf Go.Proofs.Tryd.prog 115 = some ti115 := by kernel_rfl
def ti116 : TI := ⟨.slice 5, 1, false, some (.sc (.slice none 0 0)), some 24, true, 24⟩
theorem tik116 : tiOf Go.Proofs.Tryd.prog 116 = some ti116 := by kernel_rfl
def ti117 : TI := ⟨.struct [(0, 115), (1, 116)], 2, true, some (.agg [.sc (.pointer none), .sc (.slice none 0 0)]), some 32, true, 32⟩
theorem tik117 : tiOf Go.Proofs.Tryd.prog 117 = some ti117 := by kernel_rfl
def ti118 : TI := ⟨.struct [(0, 115), (1, 116)], 2, true, some (.agg [.sc (.pointer none), .sc (.slice none 0 0)]), some 32, true, 32⟩
theorem tik118 : tiOf Go.Proofs.Tryd.prog 118 = some ti118 := by kernel_rfl
def ti119 : TI := ⟨.struct [(0, 118)], 2, true, some (.agg [.sc (.pointer none), .sc (.slice none 0 0)]), some 32, true, 32⟩
theorem tik119 : tiOf Go.Proofs.Tryd.prog 119 = some ti119 := by kernel_rfl
def ti120 : TI := ⟨.struct [(0, 118)], 2, true, some (.agg [.sc (.pointer none), .sc (.slice none 0 0)]), some 32, true, 32⟩
theorem tik120 : tiOf Go.Proofs.Tryd.prog 120 = some ti120 := by kernel_rfl
def ti121 : TI := ⟨.other, 1, false, some (.sc (.nilFunc)), some 8, true, 8⟩
theorem tik121 : tiOf Go.Proofs.Tryd.prog 121 = some ti121 := by kernel_rfl
def ti122 : TI := ⟨.other, 1, false, some (.sc (.nilFunc)), some 8, true, 8⟩
theorem tik122 : tiOf Go.Proofs.Tryd.prog 122 = some ti122 := by kernel_rfl
def ti123 : TI := ⟨.other, 1, false, some (.sc (.nilFunc)), some 8, true, 8⟩
theorem tik123 : tiOf Go.Proofs.Tryd.prog 123 = some ti123 := by kernel_rfl
def ti124 : TI := ⟨.other, 1, false, some (.sc (.nilFunc)), some 8, true, 8⟩
theorem tik124 : tiOf Go.Proofs.Tryd.prog 124 = some ti124 := by kernel_rfl
def ti125 : TI := ⟨.other, 1, false, some (.sc (.nilFunc)), some 8, true, 8⟩
theorem tik125 : tiOf Go.Proofs.Tryd.prog 125 = some ti125 := by kernel_rfl
def ti126 : TI := ⟨.other, 1, false, some (.sc (.nilFunc)), some 8, true, 8⟩
theorem tik126 : tiOf Go.Proofs.Tryd.prog 126 = some ti126 := by kernel_rfl
def ti127 : TI := ⟨.other, 1, false, some (.sc (.nilFunc)), some 8, true, 8⟩
theorem tik127 : tiOf Go.Proofs.Tryd.prog 127 = some ti127 := by kernel_rfl
def ti128 : TI := ⟨.struct [(0, 3), (1, 3)], 2, true, some (.agg [.sc (.int .i64 0), .sc (.int .i64 0)]), some 16, true, 16⟩
theorem tik128 : tiOf Go.Proofs.Tryd.prog 128 = some ti128 := by kernel_rfl
def ti129 : TI := ⟨.struct [(0, 3), (1, 3)], 2, true, some (.agg [.sc (.int .i64 0), .sc (.int .i64 0)]), some 16, true, 16⟩
theorem tik129 : tiOf Go.Proofs.Tryd.prog 129 = some ti129 := by kernel_rfl
def ti130 : TI := ⟨.other, 1, false, some (.sc (.nilFunc)), some 8, true, 8⟩
theorem tik130 : tiOf Go.Proofs.Tryd.prog 130 = some ti130 := by kernel_rfl
def ti131 : TI := ⟨.other, 1, false, some (.sc (.nilFunc)), some 8, true, 8⟩
theorem tik131 : tiOf Go.Proofs.Tryd.prog 131 = some ti131 := by kernel_rfl
def ti132 : TI := ⟨.other, 1, false, some (.sc (.nilFunc)), some 8, true, 8⟩
theorem tik132 : tiOf Go.Proofs.Tryd.prog 132 = some ti132 := by kernel_rfl
def ti133 : TI := ⟨.other, 1, false, some (.sc (.pointer none)), some 8, true, 8⟩
theorem tik133 : tiOf Go.Proofs.Tryd.prog 133 = some ti133 := by kernel_rfl
def ti134 : TI := ⟨.iface, 1, false, some (.sc (.nilIface)), some 16, false, 16⟩
theorem tik134 : tiOf Go.Proofs.Tryd.prog 134 = some ti134 := by kernel_rfl
def ti135 : TI := ⟨.iface, 1, false, some (.sc (.nilIface)), some 16, false, 16⟩
theorem tik135 : tiOf Go.Proofs.Tryd.prog 135 = some ti135 := by kernel_rfl
def ti136 : TI := ⟨.other, 1, false, some (.sc (.nilFunc)), some 8, true, 8⟩
theorem tik136 : tiOf Go.Proofs.Tryd.prog 136 = some ti136 := by kernel_rfl
def ti138 : TI := ⟨.other, 1, false, some (.sc (.nilFunc)), some 8, true, 8⟩
theorem tik138 : tiOf Go.Proofs.Tryd.prog 138 = some ti138 := by kernel_rfl
def ti139 : TI := ⟨.other, 1, false, some (.sc (.nilFunc)), some 8, true, 8⟩
theorem tik139 : tiOf Go.Proofs.Tryd.prog 139 = some ti139 := by kernel_rfl
def ti140 : TI := ⟨.other, 1, false, some (.sc (.pointer none)), some 8, true, 8⟩
theorem tik140 : tiOf Go.Proofs.Tryd.prog 140 = some ti140 := by kernel_rfl
def ti141 : TI := ⟨.other, 1, false, some (.sc (.nilFunc)), some 8, true, 8⟩
theorem tik141 : tiOf Go.Proofs.Tryd.prog 141 = some ti141 := by kernel_rfl
def ti142 : TI := ⟨.other, 1, false, some (.sc (.pointer none)), some 8, true, 8⟩
theorem tik142 : tiOf Go.Proofs.Tryd.prog 142 = some ti142 := by kernel_rfl
def ti143 : TI := ⟨.other, 1, false, some (.sc (.nilFunc)), some 8, true, 8⟩
theorem tik143 : tiOf Go.Proofs.Tryd.prog 143 = some ti143 := by kernel_rfl
def ti144 : TI := ⟨.other, 1, false, some (.sc (.nilFunc)), some 8, true, 8⟩
theorem tik144 : tiOf Go.Proofs.Tryd.prog 144 = some ti144 := by kernel_rfl
def ti145 : TI := ⟨.other, 1, false, some (.sc (.nilFunc)), some 8, true, 8⟩
theorem tik145 : tiOf Go.Proofs.Tryd.prog 145 = some ti145 := by kernel_rfl
def ti146 : TI := ⟨.other, 1, false, some (.sc (.nilFunc)), some 8, true, 8⟩
theorem tik146 : tiOf Go.Proofs.Tryd.prog 146 = some ti146 := by kernel_rfl
def ti147 : TI := ⟨.other, 1, false, some (.sc (.nilFunc)), some 8, true, 8⟩
theorem tik147 : tiOf Go.Proofs.Tryd.prog 147 = some ti147 := by kernel_rfl
def ti148 : TI := ⟨.int .i64, 1, false, some (.sc (.int .i64 0)), some 8, true, 8⟩
theorem tik148 : tiOf Go.Proofs.Tryd.prog 148 = some ti148 := by kernel_rfl
def ti150 : TI := ⟨.other, 1, false, some (.sc (.nilFunc)), some 8, true, 8⟩
theorem tik150 : tiOf Go.Proofs.Tryd.prog 150 = some ti150 := by kernel_rfl
def ti151 : TI := ⟨.other, 1, false, some (.sc (.nilFunc)), some 8, true, 8⟩
theorem tik151 : tiOf Go.Proofs.Tryd.prog 151 = some ti151 := by kernel_rfl
def ti152 : TI := ⟨.other, 1, false, some (.sc (.nilFunc)), some 8, true, 8⟩
theorem tik152 : tiOf Go.Proofs.Tryd.prog 152 = some ti152 := by kernel_rfl
def ti154 : TI := ⟨.other, 1, false, some (.sc (.nilFunc)), some 8, true, 8⟩
theorem tik154 : tiOf Go.Proofs.Tryd.prog 154 = some ti154 := by kernel_rfl
def ti155 : TI := ⟨.other, 1, false, some (.sc (.nilFunc)), some 8, true, 8⟩
theorem tik155 : tiOf Go.Proofs.Tryd.prog 155 = some ti155 := by kernel_rfl
def ti156 : TI := ⟨.int .u32, 1, false, some (.sc (.int .u32 0)), some 4, true, 4⟩
theorem tik156 : tiOf Go.Proofs.Tryd.prog 156 = some ti156 := by kernel_rfl
def ti157 : TI := ⟨.other, 1, false, some (.sc (.nilFunc)), some 8, true, 8⟩
theorem tik157 : tiOf Go.Proofs.Tryd.prog 157 = some ti157 := by kernel_rfl
def ti158 : TI := ⟨.int .u64, 1, false, some (.sc (.int .u64 0)), some 8, true, 8⟩
theorem tik158 : tiOf Go.Proofs.Tryd.prog 158 = some ti158 := by kernel_rfl
def ti159 : TI := ⟨.other, 1, false, some (.sc (.pointer none)), some 8, true, 8⟩
theorem tik159 : tiOf Go.Proofs.Tryd.prog 159 = some ti159 := by kernel_rfl
def ti160 : TI := ⟨.other, 1, false, some (.sc (.nilFunc)), some 8, true, 8⟩
theorem tik160 : tiOf Go.Proofs.Tryd.prog 160 = some ti160 := by kernel_rfl
def ti161 : TI := ⟨.other, 1, false, some (.sc (.nilFunc)), some 8, true, 8⟩
theorem tik161 : tiOf Go.Proofs.Tryd.prog 161 = some ti161 := by kernel_rfl
def ti162 : TI := ⟨.int .u64, 1, false, some (.sc (.int .u64 0)), some 8, true, 8⟩
theorem tik162 : tiOf Go.Proofs.Tryd.prog 162 = some ti162 := by kernel_rfl
def ti163 : TI := ⟨.other, 1, false, some (.sc (.nilFunc)), some 8, true, 8⟩
theorem tik163 : tiOf Go.Proofs.Tryd.prog 163 = some ti163 := by kernel_rfl
def ti164 : TI := ⟨.other, 1, false, some (.sc (.nilFunc)), some 8, true, 8⟩
theorem tik164 : tiOf Go.Proofs.Tryd.prog 164 = some ti164 := by kernel_rfl
def ti165 : TI := ⟨.other, 1, false, some (.sc (.nilFunc)), some 8, true, 8⟩
theorem tik165 : tiOf Go.Proofs.Tryd.prog 165 = some ti165 := by kernel_rfl
def ti166 : TI := ⟨.other, 1, false, some (.sc (.pointer none)), some 8, true, 8⟩
theorem tik166 : tiOf Go.Proofs.Tryd.prog 166 = some ti166 := by kernel_rfl
def ti167 : TI := ⟨.other, 1, false, some (.sc (.nilFunc)), some 8, true, 8⟩
theorem tik167 : tiOf Go.Proofs.Tryd.prog 167 = some ti167 := by kernel_rfl
def ti168 : TI := ⟨.array 24 5, 24, true, some (.agg [.sc (.int .u8 0), .sc (.int .u8 0), .sc (.int .u8 0), .sc (.int .u8 0), .sc (.int .u8 0), .sc (.int .u8 0), .sc (.int .u8 0), .sc (.int .u8 0), .sc (.int .u8 0), .sc (.int .u8 0), .sc (.int .u8 0), .sc (.int .u8 0), .sc (.int .u8 0), .sc (.int .u8 0), .sc (.int .u8 0), .sc (.int .u8 0), .sc (.int .u8 0), .sc (.int .u8 0), .sc (.int .u8 0), .sc (.int .u8 0), .sc (.int .u8 0), .sc (.int .u8 0), .sc (.int .u8 0), .sc (.int .u8 0)]), some 24, true, 24⟩
theorem tik168 : tiOf Go.Proofs.Tryd.prog 168 = some ti168 := by kernel_rfl
def ti169 : TI := ⟨.other, 1, false, some (.sc (.nilFunc)), some 8, true, 8⟩
theorem tik169 : tiOf Go.Proofs.Tryd.prog 169 = some ti169 := by kernel_rfl
def ti171 : TI := ⟨.other, 1, false, some (.sc (.nilFunc)), some 8, true, 8⟩
theorem tik171 : tiOf Go.Proofs.Tryd.prog 171 = some ti171 := by kernel_rfl
def ti172 : TI := ⟨.other, 1, false, some (.sc (.pointer none)), some 8, true, 8⟩
theorem tik172 : tiOf Go.Proofs.Tryd.prog 172 = some ti172 := by kernel_rfl
def ti174 : TI := ⟨.other, 1, false, some (.sc (.nilFunc)), some 8, true, 8⟩
theorem tik174 : tiOf Go.Proofs.Tryd.prog 174 = some ti174 := by kernel_rfl
def ti175 : TI := ⟨.other, 1, false, some (.sc (.nilFunc)), some 8, true, 8⟩
theorem tik175 : tiOf Go.Proofs.Tryd.prog 175 = some ti175 := by kernel_rfl
def ti176 : TI := ⟨.other, 1, false, some (.sc (.nilFunc)), some 8, true, 8⟩
theorem tik176 : tiOf Go.Proofs.Tryd.prog 176 = some ti176 := by kernel_rfl
def ti177 : TI := ⟨.array 20 158, 20, true, some (.agg [.sc (.int .u64 0), .sc (.int .u64 0), .sc (.int .u64 0), .sc (.int .u64 0), .sc (.int .u64 0), .sc (.int .u64 0), .sc (.int .u64 0), .sc (.int .u64 0), .sc (.int .u64 0), .sc (.int .u64 0), .sc (.int .u64 0), .sc (.int .u64 0), .sc (.int .u64 0), .sc (.int .u64 0), .sc (.int .u64 0), .sc (.int .u64 0), .sc (.int .u64 0), .sc (.int .u64 0), .sc (.int .u64 0), .sc (.int .u64 0)]), some 160, true, 160⟩
theorem tik177 : tiOf Go.Proofs.Tryd.prog 177 = some ti177 := by kernel_rfl
def ti179 : TI := ⟨.array 32 5, 32, true, some (.agg [.sc (.int .u8 0), .sc (.int .u8 0), .sc (.int .u8 0), .sc (.int .u8 0), .sc (.int .u8 0), .sc (.int .u8 0), .sc (.int .u8 0), .sc (.int .u8 0), .sc (.int .u8 0), .sc (.int .u8 0), .sc (.int .u8 0), .sc (.int .u8 0), .sc (.int .u8 0), .sc (.int .u8 0), .sc (.int .u8 0), .sc (.int .u8 0), .sc (.int .u8 0), .sc (.int .u8 0), .sc (.int .u8 0), .sc (.int .u8 0), .sc (.int .u8 0), .sc (.int .u8 0), .sc (.int .u8 0), .sc (.int .u8 0), .sc (.int .u8 0), .sc (.int .u8 0), .sc (.int .u8 0), .sc (.int .u8 0), .sc (.int .u8 0), .sc (.int .u8 0), .sc (.int .u8 0), .sc (.int .u8 0)]), some 32, true, 32⟩
theorem tik179 : tiOf Go.Proofs.Tryd.prog 179 = some ti179 := by kernel_rfl
def ti180 : TI := ⟨.array 64 5, 64, true, some (.agg [.sc (.int .u8 0), .sc (.int .u8 0), .sc (.int .u8 0), .sc (.int .u8 0), .sc (.int .u8 0), .sc (.int .u8 0), .sc (.int .u8 0), .sc (.int .u8 0), .sc (.int .u8 0), .sc (.int .u8 0), .sc (.int .u8 0), .sc (.int .u8 0), .sc (.int .u8 0), .sc (.int .u8 0), .sc (.int .u8 0), .sc (.int .u8 0), .sc (.int .u8 0), .sc (.int .u8 0), .sc (.int .u8 0), .sc (.int .u8 0), .sc (.int .u8 0), .sc (.int .u8 0), .sc (.int .u8 0), .sc (.int .u8 0), .sc (.int .u8 0), .sc (.int .u8 0), .sc (.int .u8 0), .sc (.int .u8 0), .sc (.int .u8 0), .sc (.int .u8 0), .sc (.int .u8 0), .sc (.int .u8 0), .sc (.int .u8 0), .sc (.int .u8 0), .sc (.int .u8 0), .sc (.int .u8 0), .sc (.int .u8 0), .sc (.int .u8 0), .sc (.int .u8 0), .sc (.int .u8 0), .sc (.int .u8 0), .sc (.int .u8 0), .sc (.int .u8 0), .sc (.int .u8 0), .sc (.int .u8 0), .sc (.int .u8 0), .sc (.int .u8 0), .sc (.int .u8 0), .sc (.int .u8 0), .sc (.int .u8 0), .sc (.int .u8 0), .sc (.int .u8 0), .sc (.int .u8 0), .sc (.int .u8 0), .sc (.int .u8 0), .sc (.int .u8 0), .sc (.int .u8 0), .sc (.int .u8 0), .sc (.int .u8 0), .sc (.int .u8 0), .sc (.int .u8 0), .sc (.int .u8 0), .sc (.int .u8 0), .sc (.int .u8 0)]), some 64, true, 64⟩
theorem tik180 : tiOf Go.Proofs.Tryd.prog 180 = some ti180 := by kernel_rfl
def ti181 : TI := ⟨.struct [(0, 17), (1, 17), (2, 17), (3, 9)], 4, true, some (.agg [.sc (.pointer none), .sc (.pointer none), .sc (.pointer none), .sc (.string .empty)]), some 40, false, 40⟩
theorem tik181 : tiOf Go.Proofs.Tryd.prog 181 = some ti181 := by kernel_rfl
def ti182 : TI := ⟨.struct [(0, 17), (1, 17), (2, 17), (3, 9)], 4, true, some (.agg [.sc (.pointer none), .sc (.pointer none), .sc (.pointer none), .sc (.string .empty)]), some 40, false, 40⟩
theorem tik182 : tiOf Go.Proofs.Tryd.prog 182 = some ti182 := by kernel_rfl
def ti183 : TI := ⟨.array 0 16, 0, true, some (.agg []), none, true, 0⟩
theorem tik183 : tiOf Go.Proofs.Tryd.prog 183 = some ti183 := by kernel_rfl
def ti184 : TI := ⟨.struct [(0, 183)], 0, true, some (.agg []), none, false, 0⟩
theorem tik184 : tiOf Go.Proofs.Tryd.prog 184 = some ti184 := by kernel_rfl
def ti185 : TI := ⟨.struct [(0, 183)], 0, true, some (.agg []), none, false, 0⟩
theorem tik185 : tiOf Go.Proofs.Tryd.prog 185 = some ti185 := by kernel_rfl
def ti186 : TI := ⟨.other, 1, false, some (.sc (.nilFunc)), some 8, true, 8⟩
theorem tik186 : tiOf Go.Proofs.Tryd.prog 186 = some ti186 := by kernel_rfl
def ti187 : TI := ⟨.int .u8, 1, false, some (.sc (.int .u8 0)), some 1, true, 1⟩
theorem tik187 : tiOf Go.Proofs.Tryd.prog 187 = some ti187 := by kernel_rfl
def ti188 : TI := ⟨.int .u8, 1, false, some (.sc (.int .u8 0)), some 1, true, 1⟩
theorem tik188 : tiOf Go.Proofs.Tryd.prog 188 = some ti188 := by kernel_rfl
def ti189 : TI := ⟨.other, 1, false, some (.sc (.nilFunc)), some 8, true, 8⟩
theorem tik189 : tiOf Go.Proofs.Tryd.prog 189 = some ti189 := by kernel_rfl
def ti190 : TI := ⟨.int .i32, 1, false, some (.sc (.int .i32 0)), some 4, true, 4⟩
theorem tik190 : tiOf Go.Proofs.Tryd.prog 190 = some ti190 := by kernel_rfl
def ti191 : TI := ⟨.int .i32, 1, false, some (.sc (.int .i32 0)), some 4, true, 4⟩
theorem tik191 : tiOf Go.Proofs.Tryd.prog 191 = some ti191 := by kernel_rfl
def ti192 : TI := ⟨.struct [(0, 12), (1, 12), (2, 156), (3, 187), (4, 5), (5, 5), (6, 188), (7, 189), (8, 140), (9, 190), (10, 191)], 11, true, some (.agg [.sc (.int .u64 0), .sc (.int .u64 0), .sc (.int .u32 0), .sc (.int .u8 0), .sc (.int .u8 0), .sc (.int .u8 0), .sc (.int .u8 0), .sc (.nilFunc), .sc (.pointer none), .sc (.int .i32 0), .sc (.int .i32 0)]), some 48, false, 48⟩
theorem tik192 : tiOf Go.Proofs.Tryd.prog 192 = some ti192 := by kernel_rfl
def ti193 : TI := ⟨.struct [(0, 12), (1, 12), (2, 156), (3, 187), (4, 5), (5, 5), (6, 188), (7, 189), (8, 140), (9, 190), (10, 191)], 11, true, some (.agg [.sc (.int .u64 0), .sc (.int .u64 0), .sc (.int .u32 0), .sc (.int .u8 0), .sc (.int .u8 0), .sc (.int .u8 0), .sc (.int .u8 0), .sc (.nilFunc), .sc (.pointer none), .sc (.int .i32 0), .sc (.int .i32 0)]), some 48, false, 48⟩
theorem tik193 : tiOf Go.Proofs.Tryd.prog 193 = some ti193 := by kernel_rfl
def tabT : TT := (.node (.node (.node (.node (.node (.node (.node (.node .nil 1 ti1 .nil) 2 ti2 .nil) 3 ti3 (.node (.node .nil 4 ti4 .nil) 5 ti5 .nil)) 6 ti6 (.node (.node (.node .nil 7 ti7 .nil) 8 ti8 .nil) 9 ti9 (.node (.node .nil 10 ti10 .nil) 11 ti11 .nil))) 12 ti12 (.node (.node (.node (.node .nil 13 ti13 .nil) 14 ti14 .nil) 15 ti15 (.node (.node .nil 16 ti16 .nil) 17 ti17 .nil)) 18 ti18 (.node (.node (.node .nil 19 ti19 .nil) 20 ti20 .nil) 21 ti21 (.node .nil 22 ti22 .nil)))) 23 ti23 (.node (.node (.node (.node (.node .nil 24 ti24 .nil) 26 ti26 .nil) 27 ti27 (.node (.node .nil 28 ti28 .nil) 29 ti29 .nil)) 30 ti30 (.node (.node (.node .nil 31 ti31 .nil) 32 ti32 .nil) 33 ti33 (.node .nil 34 ti34 .nil))) 35 ti35 (.node (.node (.node (.node .nil 37 ti37 .nil) 38 ti38 .nil) 39 ti39 (.node (.node .nil 41 ti41 .nil) 42 ti42 .nil)) 43 ti43 (.node (.node (.node .nil 44 ti44 .nil) 45 ti45 .nil) 46 ti46 (.node .nil 48 ti48 .nil))))) 49 ti49 (.node (.node (.node (.node (.node (.node .nil 50 ti50 .nil) 51 ti51 .nil) 52 ti52 (.node (.node .nil 53 ti53 .nil) 54 ti54 .nil)) 55 ti55 (.node (.node (.node .nil 56 ti56 .nil) 57 ti57 .nil) 58 ti58 (.node .nil 59 ti59 .nil))) 60 ti60 (.node (.node (.node (.node .nil 61 ti61 .nil) 62 ti62 .nil) 64 ti64 (.node (.node .nil 65 ti65 .nil) 66 ti66 .nil)) 68 ti68 (.node (.node (.node .nil 70 ti70 .nil) 71 ti71 .nil) 72 ti72 (.node .nil 73 ti73 .nil)))) 74 ti74 (.node (.node (.node (.node (.node .nil 75 ti75 .nil) 76 ti76 .nil) 77 ti77 (.node (.node .nil 78 ti78 .nil) 79 ti79 .nil)) 80 ti80 (.node (.node (.node .nil 82 ti82 .nil) 84 ti84 .nil) 85 ti85 (.node .nil 87 ti87 .nil))) 88 ti88 (.node (.node (.node (.node .nil 89 ti89 .nil) 90 ti90 .nil) 91 ti91 (.node (.node .nil 92 ti92 .nil) 94 ti94 .nil)) 95 ti95 (.node (.node (.node .nil 96 ti96 .nil) 97 ti97 .nil) 98 ti98 (.node .nil 99 ti99 .nil)))))) 100 ti100 (.node (.node (.node (.node (.node (.node (.node .nil 101 ti101 .nil) 102 ti102 .nil) 103 ti103 (.node (.node .nil 104 ti104 .nil) 105 ti105 .nil)) 106 ti106 (.node (.node (.node .nil 107 ti107 .nil) 108 ti108 .nil) 109 ti109 (.node .nil 110 ti110 .nil))) 111 ti111 (.node (.node (.node (.node .nil 112 ti112 .nil) 113 ti113 .nil) 114 ti114 (.node (.node .nil 115 ti115 .nil) 116 ti116 .nil)) 117 ti117 (.node (.node (.node .nil 118 ti118 .nil) 119 ti119 .nil) 120 ti120 (.node .nil 121 ti121 .nil)))) 122 ti122 (.node (.node (.node (.node (.node .nil 123 ti123 .nil) 124 ti124 .nil) 125 ti125 (.node (.node .nil 126 ti126 .nil) 127 ti127 .nil)) 128 ti128 (.node (.node (.node .nil 129 ti129 .nil) 130 ti130 .nil) 131 ti131 (.node .nil 132 ti132 .nil))) 133 ti133 (.node (.node (.node (.node .nil 134 ti134 .nil) 135 ti135 .nil) 136 ti136 (.node (.node .nil 138 ti138 .nil) 139 ti139 .nil)) 140 ti140 (.node (.node (.node .nil 141 ti141 .nil) 142 ti142 .nil) 143 ti143 (.node .nil 144 ti144 .nil))))) 145 ti145 (.node (.node (.node (.node (.node (.node .nil 146 ti146 .nil) 147 ti147 .nil) 148 ti148 (.node (.node .nil 150 ti150 .nil) 151 ti151 .nil)) 152 ti152 (.node (.node (.node .nil 154 ti154 .nil) 155 ti155 .nil) 156 ti156 (.node .nil 157 ti157 .nil))) 158 ti158 (.node (.node (.node (.node .nil 159 ti159 .nil) 160 ti160 .nil) 161 ti161 (.node (.node .nil 162 ti162 .nil) 163 ti163 .nil)) 164 ti164 (.node (.node (.node .nil 165 ti165 .nil) 166 ti166 .nil) 167 ti167 (.node .nil 168 ti168 .nil)))) 169 ti169 (.node (.node (.node (.node (.node .nil 171 ti171 .nil) 172 ti172 .nil) 174 ti174 (.node (.node .nil 175 ti175 .nil) 176 ti176 .nil)) 177 ti177 (.node (.node (.node .nil 179 ti179 .nil) 180 ti180 .nil) 181 ti181 (.node .nil 182 ti182 .nil))) 183 ti183 (.node (.node (.node (.node .nil 184 ti184 .nil) 185 ti185 .nil) 186 ti186 (.node (.node .nil 187 ti187 .nil) 188 ti188 .nil)) 189 ti189 (.node (.node (.node .nil 190 ti190 .nil) 191 ti191 .nil) 192 ti192 (.node .nil 193 ti193 .nil)))))))
theorem tabOk : tabT.Ok Go.Proofs.Tryd.prog := ⟨tik100, ⟨tik49, ⟨tik23, ⟨tik12, ⟨tik6, ⟨tik3, ⟨tik2, ⟨tik1, trivial, trivial⟩, trivial⟩, ⟨tik5, ⟨tik4, trivial, trivial⟩, trivial⟩⟩, ⟨tik9, ⟨tik8, ⟨tik7, trivial, trivial⟩, trivial⟩, ⟨tik11, ⟨tik10, trivial, trivial⟩, trivial⟩⟩⟩, ⟨tik18, ⟨tik15, ⟨tik14, ⟨tik13, trivial, trivial⟩, trivial⟩, ⟨tik17, ⟨tik16, trivial, trivial⟩, trivial⟩⟩, ⟨tik21, ⟨tik20, ⟨tik19, trivial, trivial⟩, trivial⟩, ⟨tik22, trivial, trivial⟩⟩⟩⟩, ⟨tik35, ⟨tik30, ⟨tik27, ⟨tik26, ⟨tik24, trivial, trivial⟩, trivial⟩, ⟨tik29, ⟨tik28, trivial, trivial⟩, trivial⟩⟩, ⟨tik33, ⟨tik32, ⟨tik31, trivial, trivial⟩, trivial⟩, ⟨tik34, trivial, trivial⟩⟩⟩, ⟨tik43, ⟨tik39, ⟨tik38, ⟨tik37, trivial, trivial⟩, trivial⟩, ⟨tik42, ⟨tik41, trivial, trivial⟩, trivial⟩⟩, ⟨tik46, ⟨tik45, ⟨tik44, trivial, trivial⟩, trivial⟩, ⟨tik48, trivial, trivial⟩⟩⟩⟩⟩, ⟨tik74, ⟨tik60, ⟨tik55, ⟨tik52, ⟨tik51, ⟨tik50, trivial, trivial⟩, trivial⟩, ⟨tik54, ⟨tik53, trivial, trivial⟩, trivial⟩⟩, ⟨tik58, ⟨tik57, ⟨tik56, trivial, trivial⟩, trivial⟩, ⟨tik59, trivial, trivial⟩⟩⟩, ⟨tik68, ⟨tik64, ⟨tik62, ⟨tik61, trivial, trivial⟩, trivial⟩, ⟨tik66, ⟨tik65, trivial, trivial⟩, trivial⟩⟩, ⟨tik72, ⟨tik71, ⟨tik70, trivial, trivial⟩, trivial⟩, ⟨tik73, trivial, trivial⟩⟩⟩⟩, ⟨tik88, ⟨tik80, ⟨tik77, ⟨tik76, ⟨tik75, trivial, trivial⟩, trivial⟩, ⟨tik79, ⟨tik78, trivial, trivial⟩, trivial⟩⟩, ⟨tik85, ⟨tik84, ⟨tik82, trivial, trivial⟩, trivial⟩, ⟨tik87, trivial, trivial⟩⟩⟩, ⟨tik95, ⟨tik91, ⟨tik90, ⟨tik89, trivial, trivial⟩, trivial⟩, ⟨tik94, ⟨tik92, trivial, trivial⟩, trivial⟩⟩, ⟨tik98, ⟨tik97, ⟨tik96, trivial, trivial⟩, trivial⟩, ⟨tik99, trivial, trivial⟩⟩⟩⟩⟩⟩, ⟨tik145, ⟨tik122, ⟨tik111, ⟨tik106, ⟨tik103, ⟨tik102, ⟨tik101, trivial, trivial⟩, trivial⟩, ⟨tik105, ⟨tik104, trivial, trivial⟩, trivial⟩⟩, ⟨tik109, ⟨tik108, ⟨tik107, trivial, trivial⟩, trivial⟩, ⟨tik110, trivial, trivial⟩⟩⟩, ⟨tik117, ⟨tik114, ⟨tik113, ⟨tik112, trivial, trivial⟩, trivial⟩, ⟨tik116, ⟨tik115, trivial, trivial⟩, trivial⟩⟩, ⟨tik120, ⟨tik119, ⟨tik118, trivial, trivial⟩, trivial⟩, ⟨tik121, trivial, trivial⟩⟩⟩⟩, ⟨tik133, ⟨tik128, ⟨tik125, ⟨tik124, ⟨tik123, trivial, trivial⟩, trivial⟩, ⟨tik127, ⟨tik126, trivial, trivial⟩, trivial⟩⟩, ⟨tik131, ⟨tik130, ⟨tik129, trivial, trivial⟩, trivial⟩, ⟨tik132, trivial, trivial⟩⟩⟩, ⟨tik140, ⟨tik136, ⟨tik135, ⟨tik134, trivial, trivial⟩, trivial⟩, ⟨tik139, ⟨tik138, trivial, trivial⟩, trivial⟩⟩, ⟨tik143, ⟨tik142, ⟨tik141, trivial, trivial⟩, trivial⟩, ⟨tik144, trivial, trivial⟩⟩⟩⟩⟩, ⟨tik169, ⟨tik158, ⟨tik152, ⟨tik148, ⟨tik147, ⟨tik146, trivial, trivial⟩, trivial⟩, ⟨tik151, ⟨tik150, trivial, trivial⟩, trivial⟩⟩, ⟨tik156, ⟨tik155, ⟨tik154, trivial, trivial⟩, trivial⟩, ⟨tik157, trivial, trivial⟩⟩⟩, ⟨tik164, ⟨tik161, ⟨tik160, ⟨tik159, trivial, trivial⟩, trivial⟩, ⟨tik163, ⟨tik162, trivial, trivial⟩, trivial⟩⟩, ⟨tik167, ⟨tik166, ⟨tik165, trivial, trivial⟩, trivial⟩, ⟨tik168, trivial, trivial⟩⟩⟩⟩, ⟨tik183, ⟨tik177, ⟨tik174, ⟨tik172, ⟨tik171, trivial, trivial⟩, trivial⟩, ⟨tik176, ⟨tik175, trivial, trivial⟩, trivial⟩⟩, ⟨tik181, ⟨tik180, ⟨tik179, trivial, trivial⟩, trivial⟩, ⟨tik182, trivial, trivial⟩⟩⟩, ⟨tik189, ⟨tik186, ⟨tik185, ⟨tik184, trivial, trivial⟩, trivial⟩, ⟨tik188, ⟨tik187, trivial, trivial⟩, trivial⟩⟩, ⟨tik192, ⟨tik191, ⟨tik190, trivial, trivial⟩, trivial⟩, ⟨tik193, trivial, trivial⟩⟩⟩⟩⟩⟩⟩
def tab (t : TypeId) : Option TI := tabT.get t
end Go.Proofs.Ax.Tryd
