import Derived.Test.YtedekogkeamacaaGreatDoorProg
import Derived.Test.YtedekogkeamacaaGreatDoorAxE
set_option maxRecDepth 10000
namespace Go.Proofs.Ax.Tryz
open Go Go.Proofs.Ax
def ti1 : TI := ⟨.other, 1, false, some (.sc (.nilFunc)), some 8, true, 8⟩
theorem tik1 : tiOf Go.Proofs.Tryz.prog 1 = some ti1 := by kernel_rfl
def ti2 : TI := ⟨.int .i64, 1, false, some (.sc (.int .i64 0)), some 8, true, 8⟩
theorem tik2 : tiOf Go.Proofs.Tryz.prog 2 = some ti2 := by kernel_rfl
def ti3 : TI := ⟨.int .i64, 1, false, some (.sc (.int .i64 0)), some 8, true, 8⟩
theorem tik3 : tiOf Go.Proofs.Tryz.prog 3 = some ti3 := by kernel_rfl
def ti4 : TI := ⟨.bool, 1, false, some (.sc (.bool false)), some 1, true, 1⟩
theorem tik4 : tiOf Go.Proofs.Tryz.prog 4 = some ti4 := by kernel_rfl
def ti5 : TI := ⟨.int .u8, 1, false, some (.sc (.int .u8 0)), some 1, true, 1⟩
theorem tik5 : tiOf Go.Proofs.Tryz.prog 5 = some ti5 := by kernel_rfl
def ti6 : TI := ⟨.int .u8, 1, false, some (.sc (.int .u8 0)), some 1, true, 1⟩
theorem tik6 : tiOf Go.Proofs.Tryz.prog 6 = some ti6 := by kernel_rfl
def ti7 : TI := ⟨.struct [(0, 2), (1, 3), (2, 4), (3, 6)], 4, true, some (.agg [.sc (.int .i64 0), .sc (.int .i64 0), .sc (.bool false), .sc (.int .u8 0)]), some 24, true, 24⟩
theorem tik7 : tiOf Go.Proofs.Tryz.prog 7 = some ti7 := by kernel_rfl
def ti8 : TI := ⟨.struct [(0, 2), (1, 3), (2, 4), (3, 6)], 4, true, some (.agg [.sc (.int .i64 0), .sc (.int .i64 0), .sc (.bool false), .sc (.int .u8 0)]), some 24, true, 24⟩
theorem tik8 : tiOf Go.Proofs.Tryz.prog 8 = some ti8 := by kernel_rfl
def ti9 : TI := ⟨.str, 1, false, some (.sc (.string .empty)), some 16, true, 16⟩
theorem tik9 : tiOf Go.Proofs.Tryz.prog 9 = some ti9 := by kernel_rfl
def ti10 : TI := ⟨.str, 1, false, some (.sc (.string .empty)), some 16, true, 16⟩
theorem tik10 : tiOf Go.Proofs.Tryz.prog 10 = some ti10 := by kernel_rfl
def ti11 : TI := ⟨.str, 1, false, some (.sc (.string .empty)), some 16, true, 16⟩
theorem tik11 : tiOf Go.Proofs.Tryz.prog 11 = some ti11 := by kernel_rfl
def ti12 : TI := ⟨.int .u64, 1, false, some (.sc (.int .u64 0)), some 8, true, 8⟩
theorem tik12 : tiOf Go.Proofs.Tryz.prog 12 = some ti12 := by kernel_rfl
def ti13 : TI := ⟨.struct [(0, 9), (1, 12)], 2, true, some (.agg [.sc (.string .empty), .sc (.int .u64 0)]), some 24, false, 24⟩
theorem tik13 : tiOf Go.Proofs.Tryz.prog 13 = some ti13 := by kernel_rfl
def ti14 : TI := ⟨.struct [(0, 9), (1, 12)], 2, true, some (.agg [.sc (.string .empty), .sc (.int .u64 0)]), some 24, false, 24⟩
theorem tik14 : tiOf Go.Proofs.Tryz.prog 14 = some ti14 := by kernel_rfl
def ti15 : TI := ⟨.other, 1, false, some (.sc (.pointer none)), some 8, true, 8⟩
theorem tik15 : tiOf Go.Proofs.Tryz.prog 15 = some ti15 := by kernel_rfl
def ti16 : TI := ⟨.other, 1, false, some (.sc (.pointer none)), some 8, true, 8⟩
theorem tik16 : tiOf Go.Proofs.Tryz.prog 16 = some ti16 := by kernel_rfl
def ti17 : TI := ⟨.other, 1, false, some (.sc (.pointer none)), some 8, true, 8⟩
theorem tik17 : tiOf Go.Proofs.Tryz.prog 17 = some ti17 := by kernel_rfl
def ti18 : TI := ⟨.struct [(0, 17)], 1, true, some (.agg [.sc (.pointer none)]), some 8, false, 8⟩
theorem tik18 : tiOf Go.Proofs.Tryz.prog 18 = some ti18 := by kernel_rfl
def ti19 : TI := ⟨.struct [(0, 17)], 1, true, some (.agg [.sc (.pointer none)]), some 8, false, 8⟩
theorem tik19 : tiOf Go.Proofs.Tryz.prog 19 = some ti19 := by kernel_rfl
def ti20 : TI := ⟨.iface, 1, false, some (.sc (.nilIface)), some 16, true, 16⟩
theorem tik20 : tiOf Go.Proofs.Tryz.prog 20 = some ti20 := by kernel_rfl
def ti21 : TI := ⟨.int .i32, 1, false, some (.sc (.int .i32 0)), some 4, true, 4⟩
theorem tik21 : tiOf Go.Proofs.Tryz.prog 21 = some ti21 := by kernel_rfl
def ti22 : TI := ⟨.slice 59, 1, false, some (.sc (.slice none 0 0)), some 24, true, 24⟩
theorem tik22 : tiOf Go.Proofs.Tryz.prog 22 = some ti22 := by kernel_rfl
def ti23 : TI := ⟨.slice 3, 1, false, some (.sc (.slice none 0 0)), some 24, true, 24⟩
theorem tik23 : tiOf Go.Proofs.Tryz.prog 23 = some ti23 := by kernel_rfl
def ti24 : TI := ⟨.slice 68, 1, false, some (.sc (.slice none 0 0)), some 24, true, 24⟩
theorem tik24 : tiOf Go.Proofs.Tryz.prog 24 = some ti24 := by kernel_rfl
def ti25 : TI := ⟨.struct [(0, 22), (1, 23), (2, 24), (3, 3)], 4, true, some (.agg [.sc (.slice none 0 0), .sc (.slice none 0 0), .sc (.slice none 0 0), .sc (.int .i64 0)]), some 80, true, 80⟩
theorem tik25 : tiOf Go.Proofs.Tryz.prog 25 = some ti25 := by kernel_rfl
def ti26 : TI := ⟨.struct [(0, 22), (1, 23), (2, 24), (3, 3)], 4, true, some (.agg [.sc (.slice none 0 0), .sc (.slice none 0 0), .sc (.slice none 0 0), .sc (.int .i64 0)]), some 80, true, 80⟩
theorem tik26 : tiOf Go.Proofs.Tryz.prog 26 = some ti26 := by kernel_rfl
def ti27 : TI := ⟨.struct [(0, 3), (1, 3)], 2, true, some (.agg [.sc (.int .i64 0), .sc (.int .i64 0)]), some 16, true, 16⟩
theorem tik27 : tiOf Go.Proofs.Tryz.prog 27 = some ti27 := by kernel_rfl
def ti28 : TI := ⟨.struct [(0, 3), (1, 3)], 2, true, some (.agg [.sc (.int .i64 0), .sc (.int .i64 0)]), some 16, true, 16⟩
theorem tik28 : tiOf Go.Proofs.Tryz.prog 28 = some ti28 := by kernel_rfl
def ti29 : TI := ⟨.other, 1, false, some (.sc (.nilFunc)), some 8, true, 8⟩
theorem tik29 : tiOf Go.Proofs.Tryz.prog 29 = some ti29 := by kernel_rfl
def ti30 : TI := ⟨.other, 1, false, some (.sc (.nilFunc)), some 8, true, 8⟩
theorem tik30 : tiOf Go.Proofs.Tryz.prog 30 = some ti30 := by kernel_rfl
def ti31 : TI := ⟨.int .i64, 1, false, some (.sc (.int .i64 0)), some 8, true, 8⟩
theorem tik31 : tiOf Go.Proofs.Tryz.prog 31 = some ti31 := by kernel_rfl
def ti33 : TI := ⟨.other, 1, false, some (.sc (.nilFunc)), some 8, true, 8⟩
theorem tik33 : tiOf Go.Proofs.Tryz.prog 33 = some ti33 := by kernel_rfl
def ti34 : TI := ⟨.other, 1, false, some (.sc (.nilFunc)), some 8, true, 8⟩
theorem tik34 : tiOf Go.Proofs.Tryz.prog 34 = some ti34 := by kernel_rfl
def ti35 : TI := ⟨.other, 1, false, some (.sc (.nilFunc)), some 8, true, 8⟩
theorem tik35 : tiOf Go.Proofs.Tryz.prog 35 = some ti35 := by kernel_rfl
def ti36 : TI := ⟨.other, 1, false, some (.sc (.nilFunc)), some 8, true, 8⟩
theorem tik36 : tiOf Go.Proofs.Tryz.prog 36 = some ti36 := by kernel_rfl
def ti37 : TI := ⟨.other, 1, false, some (.sc (.nilFunc)), some 8, true, 8⟩
theorem tik37 : tiOf Go.Proofs.Tryz.prog 37 = some ti37 := by kernel_rfl
def ti38 : TI := ⟨.other, 1, false, some (.sc (.nilFunc)), some 8, true, 8⟩
theorem tik38 : tiOf Go.Proofs.Tryz.prog 38 = some ti38 := by kernel_rfl
def ti39 : TI := ⟨.other, 1, false, some (.sc (.nilFunc)), some 8, true, 8⟩
theorem tik39 : tiOf Go.Proofs.Tryz.prog 39 = some ti39 := by kernel_rfl
def ti40 : TI := ⟨.other, 1, false, some (.sc (.nilFunc)), some 8, true, 8⟩
theorem tik40 : tiOf Go.Proofs.Tryz.prog 40 = some ti40 := by kernel_rfl
def ti41 : TI := ⟨.other, 1, false, some (.sc (.nilFunc)), some 8, true, 8⟩
theorem tik41 : tiOf Go.Proofs.Tryz.prog 41 = some ti41 := by kernel_rfl
def ti43 : TI := ⟨.other, 1, false, some (.sc (.nilFunc)), some 8, true, 8⟩
theorem tik43 : tiOf Go.Proofs.Tryz.prog 43 = some ti43 := by kernel_rfl
def ti45 : TI := ⟨.other, 1, false, some (.sc (.nilFunc)), some 8, true, 8⟩
theorem tik45 : tiOf Go.Proofs.Tryz.prog 45 = some ti45 := by kernel_rfl
def ti46 : TI := ⟨.other, 1, false, some (.sc (.nilFunc)), some 8, true, 8⟩
theorem tik46 : tiOf Go.Proofs.Tryz.prog 46 = some ti46 := by kernel_rfl
def ti47 : TI := ⟨.other, 1, false, some (.sc (.nilFunc)), some 8, true, 8⟩
theorem tik47 : tiOf Go.Proofs.Tryz.prog 47 = some ti47 := by kernel_rfl
def ti48 : TI := ⟨.other, 1, false, some (.sc (.nilFunc)), some 8, true, 8⟩
theorem tik48 : tiOf Go.Proofs.Tryz.prog 48 = some ti48 := by kernel_rfl
def ti49 : TI := ⟨.other, 1, false, some (.sc (.nilFunc)), some 8, true, 8⟩
theorem tik49 : tiOf Go.Proofs.Tryz.prog 49 = some ti49 := by kernel_rfl
def ti50 : TI := ⟨.other, 1, false, some (.sc (.nilFunc)), some 8, true, 8⟩
theorem tik50 : tiOf Go.Proofs.Tryz.prog 50 = some ti50 := by kernel_rfl
def ti51 : TI := ⟨.other, 1, false, some (.sc (.nilFunc)), some 8, true, 8⟩
theorem tik51 : tiOf Go.Proofs.Tryz.prog 51 = some ti51 := by kernel_rfl
def ti52 : TI := ⟨.other, 1, false, some (.sc (.nilFunc)), some 8, true, 8⟩
theorem tik52 : tiOf Go.Proofs.Tryz.prog 52 = some ti52 := by kernel_rfl
def ti53 : TI := ⟨.other, 1, false, some (.sc (.nilFunc)), some 8, true, 8⟩
theorem tik53 : tiOf Go.Proofs.Tryz.prog 53 = some ti53 := by kernel_rfl
def ti54 : TI := ⟨.slice 88, 1, false, some (.sc (.slice none 0 0)), some 24, true, 24⟩
theorem tik54 : tiOf Go.Proofs.Tryz.prog 54 = some ti54 := by kernel_rfl
def ti56 : TI := ⟨.other, 1, false, some (.sc (.nilFunc)), some 8, true, 8⟩
theorem tik56 : tiOf Go.Proofs.Tryz.prog 56 = some ti56 := by kernel_rfl
def ti57 : TI := ⟨.slice 28, 1, false, some (.sc (.slice none 0 0)), some 24, true, 24⟩
theorem tik57 : tiOf Go.Proofs.Tryz.prog 57 = some ti57 := by kernel_rfl
def ti58 : TI := ⟨.struct [(0, 3), (1, 57)], 2, true, some (.agg [.sc (.int .i64 0), .sc (.slice none 0 0)]), some 32, true, 32⟩
theorem tik58 : tiOf Go.Proofs.Tryz.prog 58 = some ti58 := by kernel_rfl
def ti59 : TI := ⟨.struct [(0, 3), (1, 57)], 2, true, some (.agg [.sc (.int .i64 0), .sc (.slice none 0 0)]), some 32, true, 32⟩
theorem tik59 : tiOf Go.Proofs.Tryz.prog 59 = some ti59 := by kernel_rfl
def ti61 : TI := ⟨.other, 1, false, some (.sc (.nilFunc)), some 8, true, 8⟩
theorem tik61 : tiOf Go.Proofs.Tryz.prog 61 = some ti61 := by kernel_rfl
def ti62 : TI := ⟨.struct [(0, 3), (1, 3), (2, 3)], 3, true, some (.agg [.sc (.int .i64 0), .sc (.int .i64 0), .sc (.int .i64 0)]), some 24, true, 24⟩
theorem tik62 : tiOf Go.Proofs.Tryz.prog 62 = some ti62 := by kernel_rfl
def ti63 : TI := ⟨.struct [(0, 3), (1, 3), (2, 3)], 3, true, some (.agg [.sc (.int .i64 0), .sc (.int .i64 0), .sc (.int .i64 0)]), some 24, true, 24⟩
theorem tik63 : tiOf Go.Proofs.Tryz.prog 63 = some ti63 := by kernel_rfl
def ti64 : TI := ⟨.slice 63, 1, false, some (.sc (.slice none 0 0)), some 24, true, 24⟩
theorem tik64 : tiOf Go.Proofs.Tryz.prog 64 = some ti64 := by kernel_rfl
def ti65 : TI := ⟨.other, 1, false, some (.sc (.nilFunc)), some 8, true, 8⟩
theorem tik65 : tiOf Go.Proofs.Tryz.prog 65 = some ti65 := by kernel_rfl
def ti66 : TI := ⟨.other, 1, false, some (.sc (.nilFunc)), some 8, true, 8⟩
theorem tik66 : tiOf Go.Proofs.Tryz.prog 66 = some ti66 := by kernel_rfl
def ti67 : TI := ⟨.struct [(0, 3), (1, 3), (2, 3), (3, 3), (4, 3), (5, 28)], 7, true, some (.agg [.sc (.int .i64 0), .sc (.int .i64 0), .sc (.int .i64 0), .sc (.int .i64 0), .sc (.int .i64 0), .sc (.int .i64 0), .sc (.int .i64 0)]), some 56, true, 56⟩
theorem tik67 : tiOf Go.Proofs.Tryz.prog 67 = some ti67 := by kernel_rfl
def ti68 : TI := ⟨.struct [(0, 3), (1, 3), (2, 3), (3, 3), (4, 3), (5, 28)], 7, true, some (.agg [.sc (.int .i64 0), .sc (.int .i64 0), .sc (.int .i64 0), .sc (.int .i64 0), .sc (.int .i64 0), .sc (.int .i64 0), .sc (.int .i64 0)]), some 56, true, 56⟩
theorem tik68 : tiOf Go.Proofs.Tryz.prog 68 = some ti68 := by kernel_rfl
def ti70 : TI := ⟨.other, 1, false, some (.sc (.nilFunc)), some 8, true, 8⟩
theorem tik70 : tiOf Go.Proofs.Tryz.prog 70 = some ti70 := by kernel_rfl
def ti71 : TI := ⟨.other, 1, false, some (.sc (.nilFunc)), some 8, true, 8⟩
theorem tik71 : tiOf Go.Proofs.Tryz.prog 71 = some ti71 := by kernel_rfl
def ti72 : TI := ⟨.other, 1, false, some (.sc (.nilFunc)), some 8, true, 8⟩
theorem tik72 : tiOf Go.Proofs.Tryz.prog 72 = some ti72 := by kernel_rfl
def ti73 : TI := ⟨.other, 1, false, some (.sc (.nilFunc)), some 8, true, 8⟩
theorem tik73 : tiOf Go.Proofs.Tryz.prog 73 = some ti73 := by kernel_rfl
def ti74 : TI := ⟨.other, 1, false, some (.sc (.nilFunc)), some 8, true, 8⟩
theorem tik74 : tiOf Go.Proofs.Tryz.prog 74 = some ti74 := by kernel_rfl
def ti75 : TI := ⟨.other, 1, false, some (.sc (.nilFunc)), some 8, true, 8⟩
theorem tik75 : tiOf Go.Proofs.Tryz.prog 75 = some ti75 := by kernel_rfl
def ti76 : TI := ⟨.other, 1, false, some (.sc (.nilFunc)), some 8, true, 8⟩
theorem tik76 : tiOf Go.Proofs.Tryz.prog 76 = some ti76 := by kernel_rfl
def ti77 : TI := ⟨.other, 1, false, some (.sc (.nilFunc)), some 8, true, 8⟩
theorem tik77 : tiOf Go.Proofs.Tryz.prog 77 = some ti77 := by kernel_rfl
def ti79 : TI := ⟨.other, 1, false, some (.sc (.nilFunc)), some 8, true, 8⟩
theorem tik79 : tiOf Go.Proofs.Tryz.prog 79 = some ti79 := by kernel_rfl
def ti80 : TI := ⟨.other, 1, false, some (.sc (.nilFunc)), some 8, true, 8⟩
theorem tik80 : tiOf Go.Proofs.Tryz.prog 80 = some ti80 := by kernel_rfl
def ti81 : TI := ⟨.struct [(0, 3), (1, 23)], 2, true, some (.agg [.sc (.int .i64 0), .sc (.slice none 0 0)]), some 32, true, 32⟩
theorem tik81 : tiOf Go.Proofs.Tryz.prog 81 = some ti81 := by kernel_rfl
def ti82 : TI := ⟨.struct [(0, 3), (1, 23)], 2, true, some (.agg [.sc (.int .i64 0), .sc (.slice none 0 0)]), some 32, true, 32⟩
theorem tik82 : tiOf Go.Proofs.Tryz.prog 82 = some ti82 := by kernel_rfl
def ti84 : TI := ⟨.other, 1, false, some (.sc (.nilFunc)), some 8, true, 8⟩
theorem tik84 : tiOf Go.Proofs.Tryz.prog 84 = some ti84 := by kernel_rfl
def ti85 : TI := ⟨.other, 1, false, some (.sc (.nilFunc)), some 8, true, 8⟩
theorem tik85 : tiOf Go.Proofs.Tryz.prog 85 = some ti85 := by kernel_rfl
def ti86 : TI := ⟨.int .u16, 1, false, some (.sc (.int .u16 0)), some 2, true, 2⟩
theorem tik86 : tiOf Go.Proofs.Tryz.prog 86 = some ti86 := by kernel_rfl
def ti87 : TI := ⟨.struct [(0, 3), (1, 3), (2, 3)], 3, true, some (.agg [.sc (.int .i64 0), .sc (.int .i64 0), .sc (.int .i64 0)]), some 24, true, 24⟩
theorem tik87 : tiOf Go.Proofs.Tryz.prog 87 = some ti87 := by kernel_rfl
def ti88 : TI := ⟨.struct [(0, 3), (1, 3), (2, 3)], 3, true, some (.agg [.sc (.int .i64 0), .sc (.int .i64 0), .sc (.int .i64 0)]), some 24, true, 24⟩
theorem tik88 : tiOf Go.Proofs.Tryz.prog 88 = some ti88 := by kernel_rfl
def ti89 : TI := ⟨.other, 1, false, some (.sc (.nilFunc)), some 8, true, 8⟩
theorem tik89 : tiOf Go.Proofs.Tryz.prog 89 = some ti89 := by kernel_rfl
def ti90 : TI := ⟨.slice 54, 1, false, some (.sc (.slice none 0 0)), some 24, true, 24⟩
theorem tik90 : tiOf Go.Proofs.Tryz.prog 90 = some ti90 := by kernel_rfl
def ti91 : TI := ⟨.other, 1, false, some (.sc (.nilFunc)), some 8, true, 8⟩
theorem tik91 : tiOf Go.Proofs.Tryz.prog 91 = some ti91 := by kernel_rfl
def ti92 : TI := ⟨.other, 1, false, some (.sc (.nilFunc)), some 8, true, 8⟩
theorem tik92 : tiOf Go.Proofs.Tryz.prog 92 = some ti92 := by kernel_rfl
def ti93 : TI := ⟨.other, 1, false, some (.sc (.nilFunc)), some 8, true, 8⟩
theorem tik93 : tiOf Go.Proofs.Tryz.prog 93 = some ti93 := by kernel_rfl
def ti95 : TI := ⟨.other, 1, false, some (.sc (.nilFunc)), some 8, true, 8⟩
theorem tik95 : tiOf Go.Proofs.Tryz.prog 95 = some ti95 := by kernel_rfl
def ti96 : TI := ⟨.other, 1, false, some (.sc (.nilFunc)), some 8, true, 8⟩
theorem tik96 : tiOf Go.Proofs.Tryz.prog 96 = some ti96 := by kernel_rfl
def ti97 : TI := ⟨.other, 1, false, some (.sc (.nilFunc)), some 8, true, 8⟩
theorem tik97 : tiOf Go.Proofs.Tryz.prog 97 = some ti97 := by kernel_rfl
def ti98 : TI := ⟨.other, 1, false, some (.sc (.nilFunc)), some 8, true, 8⟩
theorem tik98 : tiOf Go.Proofs.Tryz.prog 98 = some ti98 := by kernel_rfl
def ti99 : TI := ⟨.other, 1, false, some (.sc (.nilFunc)), some 8, true, 8⟩
theorem tik99 : tiOf Go.Proofs.Tryz.prog 99 = some ti99 := by kernel_rfl
def ti100 : TI := ⟨.other, 1, false, some (.sc (.nilFunc)), some 8, true, 8⟩
theorem tik100 : tiOf Go.Proofs.Tryz.prog 100 = some ti100 := by kernel_rfl
def ti101 : TI := ⟨.other, 1, false, some (.sc (.nilFunc)), some 8, true, 8⟩
theorem tik101 : tiOf Go.Proofs.Tryz.prog 101 = some ti101 := by kernel_rfl
def ti103 : TI := ⟨.other, 1, false, some (.sc (.nilFunc)), some 8, true, 8⟩
theorem tik103 : tiOf Go.Proofs.Tryz.prog 103 = some ti103 := by kernel_rfl
def ti104 : TI := ⟨.other, 1, false, some (.sc (.nilFunc)), some 8, true, 8⟩
theorem tik104 : tiOf Go.Proofs.Tryz.prog 104 = some ti104 := by kernel_rfl
def ti105 : TI := ⟨.struct [(0, 26), (4, 31)], 5, true, some (.agg [.sc (.slice none 0 0), .sc (.slice none 0 0), .sc (.slice none 0 0), .sc (.int .i64 0), .sc (.int .i64 0)]), some 88, true, 88⟩
theorem tik105 : tiOf Go.Proofs.Tryz.prog 105 = some ti105 := by kernel_rfl
def ti106 : TI := ⟨.struct [(0, 26), (4, 31)], 5, true, some (.agg [.sc (.slice none 0 0), .sc (.slice none 0 0), .sc (.slice none 0 0), .sc (.int .i64 0), .sc (.int .i64 0)]), some 88, true, 88⟩
theorem tik106 : tiOf Go.Proofs.Tryz.prog 106 = some ti106 := by kernel_rfl
def ti107 : TI := ⟨.other, 1, false, some (.sc (.nilFunc)), some 8, true, 8⟩
theorem tik107 : tiOf Go.Proofs.Tryz.prog 107 = some ti107 := by kernel_rfl
def ti108 : TI := ⟨.other, 1, false, some (.sc (.nilFunc)), some 8, true, 8⟩
theorem tik108 : tiOf Go.Proofs.Tryz.prog 108 = some ti108 := by kernel_rfl
def ti109 : TI := ⟨.other, 1, false, some (.sc (.nilFunc)), some 8, true, 8⟩
theorem tik109 : tiOf Go.Proofs.Tryz.prog 109 = some ti109 := by kernel_rfl
def ti110 : TI := ⟨.other, 1, false, some (.sc (.nilFunc)), some 8, true, 8⟩
theorem tik110 : tiOf Go.Proofs.Tryz.prog 110 = some ti110 := by kernel_rfl
def ti111 : TI := ⟨.other, 1, false, some (.sc (.nilFunc)), some 8, true, 8⟩
theorem tik111 : tiOf Go.Proofs.Tryz.prog 111 = some ti111 := by kernel_rfl
def ti112 : TI := ⟨.iface, 1, false, some (.sc (.nilIface)), some 16, false, 16⟩
theorem tik112 : tiOf Go.Proofs.Tryz.prog 112 = some ti112 := by kernel_rfl
def ti113 : TI := ⟨.iface, 1, false, some (.sc (.nilIface)), some 16, false, 16⟩
theorem tik113 : tiOf Go.Proofs.Tryz.prog 113 = some ti113 := by kernel_rfl
def ti114 : TI := ⟨.struct [(0, 3), (1, 3)], 2, true, some (.agg [.sc (.int .i64 0), .sc (.int .i64 0)]), some 16, true, 16⟩
theorem tik114 : tiOf Go.Proofs.Tryz.prog 114 = some ti114 := by kernel_rfl
def ti115 : TI := ⟨.struct [(0, 3), (1, 3)], 2, true, some (.agg [.sc (.int .i64 0), .sc (.int .i64 0)]), some 16, true, 16⟩
theorem tik115 : tiOf Go.Proofs.Tryz.prog 115 = some ti115 := by kernel_rfl
def ti116 : TI := ⟨.other, 1, false, some (.sc (.nilFunc)), some 8, true, 8⟩
theorem tik116 : tiOf Go.Proofs.Tryz.prog 116 = some ti116 := by kernel_rfl
def ti117 : TI := ⟨.struct [(0, 3), (1, 3)], 2, true, some (.agg [.sc (.int .i64 0), .sc (.int .i64 0)]), some 16, true, 16⟩
theorem tik117 : tiOf Go.Proofs.Tryz.prog 117 = some ti117 := by kernel_rfl
def ti118 : TI := ⟨.struct [(0, 3), (1, 3)], 2, true, some (.agg [.sc (.int .i64 0), .sc (.int .i64 0)]), some 16, true, 16⟩
theorem tik118 : tiOf Go.Proofs.Tryz.prog 118 = some ti118 := by kernel_rfl
def ti119 : TI := ⟨.other, 1, false, some (.sc (.pointer none)), some 8, true, 8⟩
theorem tik119 : tiOf Go.Proofs.Tryz.prog 119 = some ti119 := by kernel_rfl
def ti120 : TI := ⟨.other, 1, false, some (.sc (.nilFunc)), some 8, true, 8⟩
theorem tik120 : tiOf Go.Proofs.Tryz.prog 120 = some ti120 := by kernel_rfl
def ti121 : TI := ⟨.map 150 28, 1, false, some (.sc (.map none)), some 8, true, 8⟩
theorem tik121 : tiOf Go.Proofs.Tryz.prog 121 = some ti121 := by kernel_rfl
def ti122 : TI := ⟨.other, 1, false, some (.sc (.nilFunc)), some 8, true, 8⟩
theorem tik122 : tiOf Go.Proofs.Tryz.prog 122 = some ti122 := by kernel_rfl
def ti123 : TI := ⟨.other, 1, false, some (.sc (.nilFunc)), some 8, true, 8⟩
theorem tik123 : tiOf Go.Proofs.Tryz.prog 123 = some ti123 := by kernel_rfl
def ti124 : TI := ⟨.other, 1, false, some (.sc (.nilFunc)), some 8, true, 8⟩
theorem tik124 : tiOf Go.Proofs.Tryz.prog 124 = some ti124 := by kernel_rfl
def ti125 : TI := ⟨.struct [(0, 3), (1, 3)], 2, true, some (.agg [.sc (.int .i64 0), .sc (.int .i64 0)]), some 16, true, 16⟩
theorem tik125 : tiOf Go.Proofs.Tryz.prog 125 = some ti125 := by kernel_rfl
def ti126 : TI := ⟨.struct [(0, 3), (1, 3)], 2, true, some (.agg [.sc (.int .i64 0), .sc (.int .i64 0)]), some 16, true, 16⟩
theorem tik126 : tiOf Go.Proofs.Tryz.prog 126 = some ti126 := by kernel_rfl
def ti127 : TI := ⟨.slice 126, 1, false, some (.sc (.slice none 0 0)), some 24, true, 24⟩
theorem tik127 : tiOf Go.Proofs.Tryz.prog 127 = some ti127 := by kernel_rfl
def ti128 : TI := ⟨.struct [(0, 28), (2, 127)], 3, true, some (.agg [.sc (.int .i64 0), .sc (.int .i64 0), .sc (.slice none 0 0)]), some 40, true, 40⟩
theorem tik128 : tiOf Go.Proofs.Tryz.prog 128 = some ti128 := by kernel_rfl
def ti129 : TI := ⟨.struct [(0, 28), (2, 127)], 3, true, some (.agg [.sc (.int .i64 0), .sc (.int .i64 0), .sc (.slice none 0 0)]), some 40, true, 40⟩
theorem tik129 : tiOf Go.Proofs.Tryz.prog 129 = some ti129 := by kernel_rfl
def ti130 : TI := ⟨.slice 129, 1, false, some (.sc (.slice none 0 0)), some 24, true, 24⟩
theorem tik130 : tiOf Go.Proofs.Tryz.prog 130 = some ti130 := by kernel_rfl
def ti131 : TI := ⟨.other, 1, false, some (.sc (.nilFunc)), some 8, true, 8⟩
theorem tik131 : tiOf Go.Proofs.Tryz.prog 131 = some ti131 := by kernel_rfl
def ti132 : TI := ⟨.other, 1, false, some (.sc (.nilFunc)), some 8, true, 8⟩
theorem tik132 : tiOf Go.Proofs.Tryz.prog 132 = some ti132 := by kernel_rfl
def ti134 : TI := ⟨.other, 1, false, some (.sc (.nilFunc)), some 8, true, 8⟩
theorem tik134 : tiOf Go.Proofs.Tryz.prog 134 = some ti134 := by kernel_rfl
def ti136 : TI := ⟨.other, 1, false, some (.sc (.nilFunc)), some 8, true, 8⟩
theorem tik136 : tiOf Go.Proofs.Tryz.prog 136 = some ti136 := by kernel_rfl
def ti137 : TI := ⟨.other, 1, false, some (.sc (.nilFunc)), some 8, true, 8⟩
theorem tik137 : tiOf Go.Proofs.Tryz.prog 137 = some ti137 := by kernel_rfl
def ti138 : TI := ⟨.other, 1, false, some (.sc (.nilFunc)), some 8, true, 8⟩
theorem tik138 : tiOf Go.Proofs.Tryz.prog 138 = some ti138 := by kernel_rfl
def ti139 : TI := ⟨.other, 1, false, some (.sc (.nilFunc)), some 8, true, 8⟩
theorem tik139 : tiOf Go.Proofs.Tryz.prog 139 = some ti139 := by kernel_rfl
def ti140 : TI := ⟨.other, 1, false, some (.sc (.nilFunc)), some 8, true, 8⟩
theorem tik140 : tiOf Go.Proofs.Tryz.prog 140 = some ti140 := by kernel_rfl
def ti141 : TI := ⟨.other, 1, false, some (.sc (.nilFunc)), some 8, true, 8⟩
theorem tik141 : tiOf Go.Proofs.Tryz.prog 141 = some ti141 := by kernel_rfl
def ti142 : TI := ⟨.other, 1, false, some (.sc (.nilFunc)), some 8, true, 8⟩
theorem tik142 : tiOf Go.Proofs.Tryz.prog 142 = some ti142 := by kernel_rfl
def ti143 : TI := ⟨.other, 1, false, some (.sc (.nilFunc)), some 8, true, 8⟩
theorem tik143 : tiOf Go.Proofs.Tryz.prog 143 = some ti143 := by kernel_rfl
def ti145 : TI := ⟨.other, 1, false, some (.sc (.nilFunc)), some 8, true, 8⟩
theorem tik145 : tiOf Go.Proofs.Tryz.prog 145 = some ti145 := by kernel_rfl
def ti146 : TI := ⟨.map 3 4, 1, false, some (.sc (.map none)), some 8, true, 8⟩
theorem tik146 : tiOf Go.Proofs.Tryz.prog 146 = some ti146 := by kernel_rfl
def ti147 : TI := ⟨.map 3 3, 1, false, some (.sc (.map none)), some 8, true, 8⟩
theorem tik147 : tiOf Go.Proofs.Tryz.prog 147 = some ti147 := by kernel_rfl
def ti148 : TI := ⟨.other, 1, false, some (.sc (.nilFunc)), some 8, true, 8⟩
theorem tik148 : tiOf Go.Proofs.Tryz.prog 148 = some ti148 := by kernel_rfl
def ti149 : TI := ⟨.struct [(0, 3), (1, 3), (2, 3)], 3, true, some (.agg [.sc (.int .i64 0), .sc (.int .i64 0), .sc (.int .i64 0)]), some 24, true, 24⟩
theorem tik149 : tiOf Go.Proofs.Tryz.prog 149 = some ti149 := by kernel_rfl
def ti150 : TI := ⟨.struct [(0, 3), (1, 3), (2, 3)], 3, true, some (.agg [.sc (.int .i64 0), .sc (.int .i64 0), .sc (.int .i64 0)]), some 24, true, 24⟩
theorem tik150 : tiOf Go.Proofs.Tryz.prog 150 = some ti150 := by kernel_rfl
def ti152 : TI := ⟨.other, 1, false, some (.sc (.nilFunc)), some 8, true, 8⟩
theorem tik152 : tiOf Go.Proofs.Tryz.prog 152 = some ti152 := by kernel_rfl
def ti153 : TI := ⟨.other, 1, false, some (.sc (.nilFunc)), some 8, true, 8⟩
theorem tik153 : tiOf Go.Proofs.Tryz.prog 153 = some ti153 := by kernel_rfl
def ti154 : TI := ⟨.other, 1, false, some (.sc (.nilFunc)), some 8, true, 8⟩
theorem tik154 : tiOf Go.Proofs.Tryz.prog 154 = some ti154 := by kernel_rfl
def ti155 : TI := ⟨.other, 1, false, some (.sc (.nilFunc)), some 8, true, 8⟩
theorem tik155 : tiOf Go.Proofs.Tryz.prog 155 = some ti155 := by kernel_rfl
def ti156 : TI := ⟨.other, 1, false, some (.sc (.nilFunc)), some 8, true, 8⟩
theorem tik156 : tiOf Go.Proofs.Tryz.prog 156 = some ti156 := by kernel_rfl
def ti157 : TI := ⟨.other, 1, false, some (.sc (.nilFunc)), some 8, true, 8⟩
theorem tik157 : tiOf Go.Proofs.Tryz.prog 157 = some ti157 := by kernel_rfl
def ti158 : TI := ⟨.other, 1, false, some (.sc (.nilFunc)), some 8, true, 8⟩
theorem tik158 : tiOf Go.Proofs.Tryz.prog 158 = some ti158 := by kernel_rfl
def ti159 : TI := ⟨.other, 1, false, some (.sc (.nilFunc)), some 8, true, 8⟩
theorem tik159 : tiOf Go.Proofs.Tryz.prog 159 = some ti159 := by kernel_rfl
def ti160 : TI := ⟨.other, 1, false, some (.sc (.nilFunc)), some 8, true, 8⟩
theorem tik160 : tiOf Go.Proofs.Tryz.prog 160 = some ti160 := by kernel_rfl
def ti161 : TI := ⟨.other, 1, false, some (.sc (.nilFunc)), some 8, true, 8⟩
theorem tik161 : tiOf Go.Proofs.Tryz.prog 161 = some ti161 := by kernel_rfl
def ti162 : TI := ⟨.other, 1, false, some (.sc (.nilFunc)), some 8, true, 8⟩
theorem tik162 : tiOf Go.Proofs.Tryz.prog 162 = some ti162 := by kernel_rfl
def ti163 : TI := ⟨.other, 1, false, some (.sc (.nilFunc)), some 8, true, 8⟩
theorem tik163 : tiOf Go.Proofs.Tryz.prog 163 = some ti163 := by kernel_rfl
def ti164 : TI := ⟨.other, 1, false, some (.sc (.nilFunc)), some 8, true, 8⟩
theorem tik164 : tiOf Go.Proofs.Tryz.prog 164 = some ti164 := by kernel_rfl
def ti165 : TI := ⟨.slice 9, 1, false, some (.sc (.slice none 0 0)), some 24, true, 24⟩
theorem tik165 : tiOf Go.Proofs.Tryz.prog 165 = some ti165 := by kernel_rfl
def ti166 : TI := ⟨.other, 1, false, some (.sc (.nilFunc)), some 8, true, 8⟩
theorem tik166 : tiOf Go.Proofs.Tryz.prog 166 = some ti166 := by kernel_rfl
def ti167 : TI := ⟨.other, 1, false, some (.sc (.nilFunc)), some 8, true, 8⟩
theorem tik167 : tiOf Go.Proofs.Tryz.prog 167 = some ti167 := by kernel_rfl
def ti168 : TI := ⟨.other, 1, false, some (.sc (.nilFunc)), some 8, true, 8⟩
theorem tik168 : tiOf Go.Proofs.Tryz.prog 168 = some ti168 := by kernel_rfl
def ti169 : TI := ⟨.other, 1, false, some (.sc (.nilFunc)), some 8, true, 8⟩
theorem tik169 : tiOf Go.Proofs.Tryz.prog 169 = some ti169 := by kernel_rfl
def ti170 : TI := ⟨.map 9 178, 1, false, some (.sc (.map none)), some 8, true, 8⟩
theorem tik170 : tiOf Go.Proofs.Tryz.prog 170 = some ti170 := by kernel_rfl
def ti171 : TI := ⟨.other, 1, false, some (.sc (.nilFunc)), some 8, true, 8⟩
theorem tik171 : tiOf Go.Proofs.Tryz.prog 171 = some ti171 := by kernel_rfl
def ti172 : TI := ⟨.other, 1, false, some (.sc (.pointer none)), some 8, true, 8⟩
theorem tik172 : tiOf Go.Proofs.Tryz.prog 172 = some ti172 := by kernel_rfl
def ti173 : TI := ⟨.other, 1, false, some (.sc (.nilFunc)), some 8, true, 8⟩
theorem tik173 : tiOf Go.Proofs.Tryz.prog 173 = some ti173 := by kernel_rfl
def ti174 : TI := ⟨.other, 1, false, some (.sc (.nilFunc)), some 8, true, 8⟩
theorem tik174 : tiOf Go.Proofs.Tryz.prog 174 = some ti174 := by kernel_rfl
def ti175 : TI := ⟨.other, 1, false, some (.sc (.nilFunc)), some 8, true, 8⟩
theorem tik175 : tiOf Go.Proofs.Tryz.prog 175 = some ti175 := by kernel_rfl
def ti176 : TI := ⟨.other, 1, false, some (.sc (.nilFunc)), some 8, true, 8⟩
theorem tik176 : tiOf Go.Proofs.Tryz.prog 176 = some ti176 := by kernel_rfl
def ti177 : TI := ⟨.other, 1, false, some (.sc (.nilFunc)), some 8, true, 8⟩
theorem tik177 : tiOf Go.Proofs.Tryz.prog 177 = some ti177 := by kernel_rfl
def ti178 : TI := ⟨.other, 1, false, some (.sc (.nilFunc)), some 8, true, 8⟩
theorem tik178 : tiOf Go.Proofs.Tryz.prog 178 = some ti178 := by kernel_rfl
def ti180 : TI := ⟨.other, 1, false, some (.sc (.nilFunc)), some 8, true, 8⟩
theorem tik180 : tiOf Go.Proofs.Tryz.prog 180 = some ti180 := by kernel_rfl
def ti181 : TI := ⟨.other, 1, false, some (.sc (.nilFunc)), some 8, true, 8⟩
theorem tik181 : tiOf Go.Proofs.Tryz.prog 181 = some ti181 := by kernel_rfl
def ti182 : TI := ⟨.slice 113, 1, false, some (.sc (.slice none 0 0)), some 24, true, 24⟩
theorem tik182 : tiOf Go.Proofs.Tryz.prog 182 = some ti182 := by kernel_rfl
def ti183 : TI := ⟨.struct [(0, 26), (4, 24)], 5, true, some (.agg [.sc (.slice none 0 0), .sc (.slice none 0 0), .sc (.slice none 0 0), .sc (.int .i64 0), .sc (.slice none 0 0)]), some 104, true, 104⟩
theorem tik183 : tiOf Go.Proofs.Tryz.prog 183 = some ti183 := by kernel_rfl
def ti184 : TI := ⟨.struct [(0, 26), (4, 24)], 5, true, some (.agg [.sc (.slice none 0 0), .sc (.slice none 0 0), .sc (.slice none 0 0), .sc (.int .i64 0), .sc (.slice none 0 0)]), some 104, true, 104⟩
theorem tik184 : tiOf Go.Proofs.Tryz.prog 184 = some ti184 := by kernel_rfl
def ti185 : TI := ⟨.map 150 3, 1, false, some (.sc (.map none)), some 8, true, 8⟩
theorem tik185 : tiOf Go.Proofs.Tryz.prog 185 = some ti185 := by kernel_rfl
def ti186 : TI := ⟨.other, 1, false, some (.sc (.nilFunc)), some 8, true, 8⟩
theorem tik186 : tiOf Go.Proofs.Tryz.prog 186 = some ti186 := by kernel_rfl
def ti187 : TI := ⟨.other, 1, false, some (.sc (.nilFunc)), some 8, true, 8⟩
theorem tik187 : tiOf Go.Proofs.Tryz.prog 187 = some ti187 := by kernel_rfl
def ti188 : TI := ⟨.slice 194, 1, false, some (.sc (.slice none 0 0)), some 24, true, 24⟩
theorem tik188 : tiOf Go.Proofs.Tryz.prog 188 = some ti188 := by kernel_rfl
def ti189 : TI := ⟨.slice 194, 1, false, some (.sc (.slice none 0 0)), some 24, true, 24⟩
theorem tik189 : tiOf Go.Proofs.Tryz.prog 189 = some ti189 := by kernel_rfl
def ti190 : TI := ⟨.other, 1, false, some (.sc (.nilFunc)), some 8, true, 8⟩
theorem tik190 : tiOf Go.Proofs.Tryz.prog 190 = some ti190 := by kernel_rfl
def ti191 : TI := ⟨.other, 1, false, some (.sc (.nilFunc)), some 8, true, 8⟩
theorem tik191 : tiOf Go.Proofs.Tryz.prog 191 = some ti191 := by kernel_rfl
def ti192 : TI := ⟨.other, 1, false, some (.sc (.nilFunc)), some 8, true, 8⟩
theorem tik192 : tiOf Go.Proofs.Tryz.prog 192 = some ti192 := by kernel_rfl
def ti193 : TI := ⟨.other, 1, false, some (.sc (.nilFunc)), some 8, true, 8⟩
theorem tik193 : tiOf Go.Proofs.Tryz.prog 193 = some ti193 := by kernel_rfl
def ti194 : TI := ⟨.slice 23, 1, false, some (.sc (.slice none 0 0)), some 24, true, 24⟩
theorem tik194 : tiOf Go.Proofs.Tryz.prog 194 = some ti194 := by kernel_rfl
def ti195 : TI := ⟨.other, 1, false, some (.sc (.nilFunc)), some 8, true, 8⟩
theorem tik195 : tiOf Go.Proofs.Tryz.prog 195 = some ti195 := by kernel_rfl
def ti196 : TI := ⟨.other, 1, false, some (.sc (.nilFunc)), some 8, true, 8⟩
theorem tik196 : tiOf Go.Proofs.Tryz.prog 196 = some ti196 := by kernel_rfl
def ti197 : TI := ⟨.other, 1, false, some (.sc (.nilFunc)), some 8, true, 8⟩
theorem tik197 : tiOf Go.Proofs.Tryz.prog 197 = some ti197 := by kernel_rfl
def ti198 : TI := ⟨.other, 1, false, some (.sc (.nilFunc)), some 8, true, 8⟩
theorem tik198 : tiOf Go.Proofs.Tryz.prog 198 = some ti198 := by kernel_rfl
def ti199 : TI := ⟨.struct [(0, 88), (3, 28), (5, 150)], 8, true, some (.agg [.sc (.int .i64 0), .sc (.int .i64 0), .sc (.int .i64 0), .sc (.int .i64 0), .sc (.int .i64 0), .sc (.int .i64 0), .sc (.int .i64 0), .sc (.int .i64 0)]), some 64, true, 64⟩
theorem tik199 : tiOf Go.Proofs.Tryz.prog 199 = some ti199 := by kernel_rfl
def ti200 : TI := ⟨.struct [(0, 88), (3, 28), (5, 150)], 8, true, some (.agg [.sc (.int .i64 0), .sc (.int .i64 0), .sc (.int .i64 0), .sc (.int .i64 0), .sc (.int .i64 0), .sc (.int .i64 0), .sc (.int .i64 0), .sc (.int .i64 0)]), some 64, true, 64⟩
theorem tik200 : tiOf Go.Proofs.Tryz.prog 200 = some ti200 := by kernel_rfl
def ti201 : TI := ⟨.struct [(0, 150), (3, 3)], 4, true, some (.agg [.sc (.int .i64 0), .sc (.int .i64 0), .sc (.int .i64 0), .sc (.int .i64 0)]), some 32, true, 32⟩
theorem tik201 : tiOf Go.Proofs.Tryz.prog 201 = some ti201 := by kernel_rfl
def ti202 : TI := ⟨.struct [(0, 150), (3, 3)], 4, true, some (.agg [.sc (.int .i64 0), .sc (.int .i64 0), .sc (.int .i64 0), .sc (.int .i64 0)]), some 32, true, 32⟩
theorem tik202 : tiOf Go.Proofs.Tryz.prog 202 = some ti202 := by kernel_rfl
def ti203 : TI := ⟨.struct [(0, 3), (1, 202), (5, 88), (8, 4)], 9, true, some (.agg [.sc (.int .i64 0), .sc (.int .i64 0), .sc (.int .i64 0), .sc (.int .i64 0), .sc (.int .i64 0), .sc (.int .i64 0), .sc (.int .i64 0), .sc (.int .i64 0), .sc (.bool false)]), some 72, true, 72⟩
theorem tik203 : tiOf Go.Proofs.Tryz.prog 203 = some ti203 := by kernel_rfl
def ti204 : TI := ⟨.struct [(0, 3), (1, 202), (5, 88), (8, 4)], 9, true, some (.agg [.sc (.int .i64 0), .sc (.int .i64 0), .sc (.int .i64 0), .sc (.int .i64 0), .sc (.int .i64 0), .sc (.int .i64 0), .sc (.int .i64 0), .sc (.int .i64 0), .sc (.bool false)]), some 72, true, 72⟩
theorem tik204 : tiOf Go.Proofs.Tryz.prog 204 = some ti204 := by kernel_rfl
def ti205 : TI := ⟨.map 202 204, 1, false, some (.sc (.map none)), some 8, true, 8⟩
theorem tik205 : tiOf Go.Proofs.Tryz.prog 205 = some ti205 := by kernel_rfl
def ti206 : TI := ⟨.slice 202, 1, false, some (.sc (.slice none 0 0)), some 24, true, 24⟩
theorem tik206 : tiOf Go.Proofs.Tryz.prog 206 = some ti206 := by kernel_rfl
def ti207 : TI := ⟨.other, 1, false, some (.sc (.nilFunc)), some 8, true, 8⟩
theorem tik207 : tiOf Go.Proofs.Tryz.prog 207 = some ti207 := by kernel_rfl
def ti208 : TI := ⟨.other, 1, false, some (.sc (.nilFunc)), some 8, true, 8⟩
theorem tik208 : tiOf Go.Proofs.Tryz.prog 208 = some ti208 := by kernel_rfl
def ti209 : TI := ⟨.other, 1, false, some (.sc (.nilFunc)), some 8, true, 8⟩
theorem tik209 : tiOf Go.Proofs.Tryz.prog 209 = some ti209 := by kernel_rfl
def ti210 : TI := ⟨.other, 1, false, some (.sc (.nilFunc)), some 8, true, 8⟩
theorem tik210 : tiOf Go.Proofs.Tryz.prog 210 = some ti210 := by kernel_rfl
def ti211 : TI := ⟨.other, 1, false, some (.sc (.nilFunc)), some 8, true, 8⟩
theorem tik211 : tiOf Go.Proofs.Tryz.prog 211 = some ti211 := by kernel_rfl
def ti213 : TI := ⟨.other, 1, false, some (.sc (.nilFunc)), some 8, true, 8⟩
theorem tik213 : tiOf Go.Proofs.Tryz.prog 213 = some ti213 := by kernel_rfl
def ti214 : TI := ⟨.other, 1, false, some (.sc (.nilFunc)), some 8, true, 8⟩
theorem tik214 : tiOf Go.Proofs.Tryz.prog 214 = some ti214 := by kernel_rfl
def ti215 : TI := ⟨.other, 1, false, some (.sc (.nilFunc)), some 8, true, 8⟩
theorem tik215 : tiOf Go.Proofs.Tryz.prog 215 = some ti215 := by kernel_rfl
def ti216 : TI := ⟨.int .u64, 1, false, some (.sc (.int .u64 0)), some 8, true, 8⟩
theorem tik216 : tiOf Go.Proofs.Tryz.prog 216 = some ti216 := by kernel_rfl
def ti217 : TI := ⟨.other, 1, false, some (.sc (.nilFunc)), some 8, true, 8⟩
theorem tik217 : tiOf Go.Proofs.Tryz.prog 217 = some ti217 := by kernel_rfl
def ti218 : TI := ⟨.other, 1, false, some (.sc (.nilFunc)), some 8, true, 8⟩
theorem tik218 : tiOf Go.Proofs.Tryz.prog 218 = some ti218 := by kernel_rfl
def ti219 : TI := ⟨.other, 1, false, some (.sc (.nilFunc)), some 8, true, 8⟩
theorem tik219 : tiOf Go.Proofs.Tryz.prog 219 = some ti219 := by kernel_rfl
def ti220 : TI := ⟨.other, 1, false, some (.sc (.nilFunc)), some 8, true, 8⟩
theorem tik220 : tiOf Go.Proofs.Tryz.prog 220 = some ti220 := by kernel_rfl
def ti221 : TI := ⟨.other, 1, false, some (.sc (.nilFunc)), some 8, true, 8⟩
theorem tik221 : tiOf Go.Proofs.Tryz.prog 221 = some ti221 := by kernel_rfl
def ti222 : TI := ⟨.other, 1, false, some (.sc (.nilFunc)), some 8, true, 8⟩
theorem tik222 : tiOf Go.Proofs.Tryz.prog 222 = some ti222 := by kernel_rfl
def ti223 : TI := ⟨.other, 1, false, some (.sc (.nilFunc)), some 8, true, 8⟩
theorem tik223 : tiOf Go.Proofs.Tryz.prog 223 = some ti223 := by kernel_rfl
def ti224 : TI := ⟨.other, 1, false, some (.sc (.nilFunc)), some 8, true, 8⟩
theorem tik224 : tiOf Go.Proofs.Tryz.prog 224 = some ti224 := by kernel_rfl
def ti225 : TI := ⟨.other, 1, false, some (.sc (.nilFunc)), some 8, true, 8⟩
theorem tik225 : tiOf Go.Proofs.Tryz.prog 225 = some ti225 := by kernel_rfl
def ti226 : TI := ⟨.other, 1, false, some (.sc (.pointer none)), some 8, true, 8⟩
theorem tik226 : tiOf Go.Proofs.Tryz.prog 226 = some ti226 := by kernel_rfl
def ti227 : TI := ⟨.slice 5, 1, false, some (.sc (.slice none 0 0)), some 24, true, 24⟩
theorem tik227 : tiOf Go.Proofs.Tryz.prog 227 = some ti227 := by kernel_rfl
def ti228 : TI := ⟨.struct [(0, 226), (1, 227)], 2, true, some (.agg [.sc (.pointer none), .sc (.slice none 0 0)]), some 32, true, 32⟩
theorem tik228 : tiOf Go.Proofs.Tryz.prog 228 = some ti228 := by kernel_rfl
def ti229 : TI := ⟨.struct [(0, 226), (1, 227)], 2, true, some (.agg [.sc (.pointer none), .sc (.slice none 0 0)]), some 32, true, 32⟩
theorem tik229 : tiOf Go.Proofs.Tryz.prog 229 = some ti229 := by kernel_rfl
def ti230 : TI := ⟨.other, 1, false, some (.sc (.nilFunc)), some 8, true, 8⟩
theorem tik230 : tiOf Go.Proofs.Tryz.prog 230 = some ti230 := by kernel_rfl
def ti231 : TI := ⟨.iface, 1, false, some (.sc (.nilIface)), some 16, false, 16⟩
theorem tik231 : tiOf Go.Proofs.Tryz.prog 231 = some ti231 := by kernel_rfl
def ti232 : TI := ⟨.iface, 1, false, some (.sc (.nilIface)), some 16, false, 16⟩
theorem tik232 : tiOf Go.Proofs.Tryz.prog 232 = some ti232 := by kernel_rfl
def ti234 : TI := ⟨.other, 1, false, some (.sc (.nilFunc)), some 8, true, 8⟩
theorem tik234 : tiOf Go.Proofs.Tryz.prog 234 = some ti234 := by kernel_rfl
def ti235 : TI := ⟨.other, 1, false, some (.sc (.nilFunc)), some 8, true, 8⟩
theorem tik235 : tiOf Go.Proofs.Tryz.prog 235 = some ti235 := by kernel_rfl
def ti236 : TI := ⟨.other, 1, false, some (.sc (.nilFunc)), some 8, true, 8⟩
theorem tik236 : tiOf Go.Proofs.Tryz.prog 236 = some ti236 := by kernel_rfl
def ti237 : TI := ⟨.other, 1, false, some (.sc (.nilFunc)), some 8, true, 8⟩
theorem tik237 : tiOf Go.Proofs.Tryz.prog 237 = some ti237 := by kernel_rfl
def ti238 : TI := ⟨.other, 1, false, some (.sc (.nilFunc)), some 8, true, 8⟩
theorem tik238 : tiOf Go.Proofs.Tryz.prog 238 = some ti238 := by kernel_rfl
def ti239 : TI := ⟨.other, 1, false, some (.sc (.pointer none)), some 8, true, 8⟩
theorem tik239 : tiOf Go.Proofs.Tryz.prog 239 = some ti239 := by kernel_rfl
def ti240 : TI := ⟨.other, 1, false, some (.sc (.nilFunc)), some 8, true, 8⟩
theorem tik240 : tiOf Go.Proofs.Tryz.prog 240 = some ti240 := by kernel_rfl
def ti241 : TI := ⟨.other, 1, false, some (.sc (.nilFunc)), some 8, true, 8⟩
theorem tik241 : tiOf Go.Proofs.Tryz.prog 241 = some ti241 := by kernel_rfl
def ti242 : TI := ⟨.other, 1, false, some (.sc (.nilFunc)), some 8, true, 8⟩
theorem tik242 : tiOf Go.Proofs.Tryz.prog 242 = some ti242 := by kernel_rfl
def ti243 : TI := ⟨.other, 1, false, some (.sc (.nilFunc)), some 8, true, 8⟩
theorem tik243 : tiOf Go.Proofs.Tryz.prog 243 = some ti243 := by kernel_rfl
def ti244 : TI := ⟨.other, 1, false, some (.sc (.nilFunc)), some 8, true, 8⟩
theorem tik244 : tiOf Go.Proofs.Tryz.prog 244 = some ti244 := by kernel_rfl
def ti245 : TI := ⟨.other, 1, false, some (.sc (.nilFunc)), some 8, true, 8⟩
theorem tik245 : tiOf Go.Proofs.Tryz.prog 245 = some ti245 := by kernel_rfl
def ti246 : TI := ⟨.slice 150, 1, false, some (.sc (.slice none 0 0)), some 24, true, 24⟩
theorem tik246 : tiOf Go.Proofs.Tryz.prog 246 = some ti246 := by kernel_rfl
def ti249 : TI := ⟨.other, 1, false, some (.sc (.nilFunc)), some 8, true, 8⟩
theorem tik249 : tiOf Go.Proofs.Tryz.prog 249 = some ti249 := by kernel_rfl
def ti250 : TI := ⟨.other, 1, false, some (.sc (.nilFunc)), some 8, true, 8⟩
theorem tik250 : tiOf Go.Proofs.Tryz.prog 250 = some ti250 := by kernel_rfl
def ti251 : TI := ⟨.other, 1, false, some (.sc (.nilFunc)), some 8, true, 8⟩
theorem tik251 : tiOf Go.Proofs.Tryz.prog 251 = some ti251 := by kernel_rfl
def ti252 : TI := ⟨.other, 1, false, some (.sc (.nilFunc)), some 8, true, 8⟩
theorem tik252 : tiOf Go.Proofs.Tryz.prog 252 = some ti252 := by kernel_rfl
def ti253 : TI := ⟨.other, 1, false, some (.sc (.nilFunc)), some 8, true, 8⟩
theorem tik253 : tiOf Go.Proofs.Tryz.prog 253 = some ti253 := by kernel_rfl
def ti254 : TI := ⟨.other, 1, false, some (.sc (.nilFunc)), some 8, true, 8⟩
theorem tik254 : tiOf Go.Proofs.Tryz.prog 254 = some ti254 := by kernel_rfl
def ti255 : TI := ⟨.other, 1, false, some (.sc (.nilFunc)), some 8, true, 8⟩
theorem tik255 : tiOf Go.Proofs.Tryz.prog 255 = some ti255 := by kernel_rfl
def ti256 : TI := ⟨.other, 1, false, some (.sc (.nilFunc)), some 8, true, 8⟩
theorem tik256 : tiOf Go.Proofs.Tryz.prog 256 = some ti256 := by kernel_rfl
def ti257 : TI := ⟨.int .i64, 1, false, some (.sc (.int .i64 0)), some 8, true, 8⟩
theorem tik257 : tiOf Go.Proofs.Tryz.prog 257 = some ti257 := by kernel_rfl
def ti259 : TI := ⟨.other, 1, false, some (.sc (.nilFunc)), some 8, true, 8⟩
theorem tik259 : tiOf Go.Proofs.Tryz.prog 259 = some ti259 := by kernel_rfl
def ti260 : TI := ⟨.other, 1, false, some (.sc (.nilFunc)), some 8, true, 8⟩
theorem tik260 : tiOf Go.Proofs.Tryz.prog 260 = some ti260 := by kernel_rfl
def ti261 : TI := ⟨.other, 1, false, some (.sc (.nilFunc)), some 8, true, 8⟩
theorem tik261 : tiOf Go.Proofs.Tryz.prog 261 = some ti261 := by kernel_rfl
def ti262 : TI := ⟨.other, 1, false, some (.sc (.nilFunc)), some 8, true, 8⟩
theorem tik262 : tiOf Go.Proofs.Tryz.prog 262 = some ti262 := by kernel_rfl
def ti263 : TI := ⟨.other, 1, false, some (.sc (.nilFunc)), some 8, true, 8⟩
theorem tik263 : tiOf Go.Proofs.Tryz.prog 263 = some ti263 := by kernel_rfl
def ti264 : TI := ⟨.int .u32, 1, false, some (.sc (.int .u32 0)), some 4, true, 4⟩
theorem tik264 : tiOf Go.Proofs.Tryz.prog 264 = some ti264 := by kernel_rfl
def ti265 : TI := ⟨.other, 1, false, some (.sc (.nilFunc)), some 8, true, 8⟩
theorem tik265 : tiOf Go.Proofs.Tryz.prog 265 = some ti265 := by kernel_rfl
def ti266 : TI := ⟨.int .u64, 1, false, some (.sc (.int .u64 0)), some 8, true, 8⟩
theorem tik266 : tiOf Go.Proofs.Tryz.prog 266 = some ti266 := by kernel_rfl
def ti267 : TI := ⟨.other, 1, false, some (.sc (.nilFunc)), some 8, true, 8⟩
theorem tik267 : tiOf Go.Proofs.Tryz.prog 267 = some ti267 := by kernel_rfl
def ti268 : TI := ⟨.struct [(0, 3), (1, 3)], 2, true, some (.agg [.sc (.int .i64 0), .sc (.int .i64 0)]), some 16, true, 16⟩
theorem tik268 : tiOf Go.Proofs.Tryz.prog 268 = some ti268 := by kernel_rfl
def ti269 : TI := ⟨.other, 1, false, some (.sc (.nilFunc)), some 8, true, 8⟩
theorem tik269 : tiOf Go.Proofs.Tryz.prog 269 = some ti269 := by kernel_rfl
def ti270 : TI := ⟨.other, 1, false, some (.sc (.nilFunc)), some 8, true, 8⟩
theorem tik270 : tiOf Go.Proofs.Tryz.prog 270 = some ti270 := by kernel_rfl
def ti271 : TI := ⟨.other, 1, false, some (.sc (.pointer none)), some 8, true, 8⟩
theorem tik271 : tiOf Go.Proofs.Tryz.prog 271 = some ti271 := by kernel_rfl
def ti273 : TI := ⟨.other, 1, false, some (.sc (.nilFunc)), some 8, true, 8⟩
theorem tik273 : tiOf Go.Proofs.Tryz.prog 273 = some ti273 := by kernel_rfl
def ti274 : TI := ⟨.other, 1, false, some (.sc (.nilFunc)), some 8, true, 8⟩
theorem tik274 : tiOf Go.Proofs.Tryz.prog 274 = some ti274 := by kernel_rfl
def ti275 : TI := ⟨.other, 1, false, some (.sc (.nilFunc)), some 8, true, 8⟩
theorem tik275 : tiOf Go.Proofs.Tryz.prog 275 = some ti275 := by kernel_rfl
def ti276 : TI := ⟨.other, 1, false, some (.sc (.nilFunc)), some 8, true, 8⟩
theorem tik276 : tiOf Go.Proofs.Tryz.prog 276 = some ti276 := by kernel_rfl
def ti277 : TI := ⟨.int .u64, 1, false, some (.sc (.int .u64 0)), some 8, true, 8⟩
theorem tik277 : tiOf Go.Proofs.Tryz.prog 277 = some ti277 := by kernel_rfl
def ti278 : TI := ⟨.other, 1, false, some (.sc (.nilFunc)), some 8, true, 8⟩
theorem tik278 : tiOf Go.Proofs.Tryz.prog 278 = some ti278 := by kernel_rfl
def ti279 : TI := ⟨.other, 1, false, some (.sc (.nilFunc)), some 8, true, 8⟩
theorem tik279 : tiOf Go.Proofs.Tryz.prog 279 = some ti279 := by kernel_rfl
def ti280 : TI := ⟨.other, 1, false, some (.sc (.nilFunc)), some 8, true, 8⟩
theorem tik280 : tiOf Go.Proofs.Tryz.prog 280 = some ti280 := by kernel_rfl
def ti281 : TI := ⟨.other, 1, false, some (.sc (.pointer none)), some 8, true, 8⟩
theorem tik281 : tiOf Go.Proofs.Tryz.prog 281 = some ti281 := by kernel_rfl
def ti282 : TI := ⟨.other, 1, false, some (.sc (.nilFunc)), some 8, true, 8⟩
theorem tik282 : tiOf Go.Proofs.Tryz.prog 282 = some ti282 := by kernel_rfl
def ti283 : TI := ⟨.other, 1, false, some (.sc (.nilFunc)), some 8, true, 8⟩
theorem tik283 : tiOf Go.Proofs.Tryz.prog 283 = some ti283 := by kernel_rfl
def ti284 : TI := ⟨.other, 1, false, some (.sc (.nilFunc)), some 8, true, 8⟩
theorem tik284 : tiOf Go.Proofs.Tryz.prog 284 = some ti284 := by kernel_rfl
def ti285 : TI := ⟨.other, 1, false, some (.sc (.nilFunc)), some 8, true, 8⟩
theorem tik285 : tiOf Go.Proofs.Tryz.prog 285 = some ti285 := by kernel_rfl
def ti286 : TI := ⟨.other, 1, false, some (.sc (.nilFunc)), some 8, true, 8⟩
theorem tik286 : tiOf Go.Proofs.Tryz.prog 286 = some ti286 := by kernel_rfl
def ti287 : TI := ⟨.other, 1, false, some (.sc (.pointer none)), some 8, true, 8⟩
theorem tik287 : tiOf Go.Proofs.Tryz.prog 287 = some ti287 := by kernel_rfl
def ti288 : TI := ⟨.other, 1, false, some (.sc (.nilFunc)), some 8, true, 8⟩
theorem tik288 : tiOf Go.Proofs.Tryz.prog 288 = some ti288 := by kernel_rfl
def ti289 : TI := ⟨.other, 1, false, some (.sc (.nilFunc)), some 8, true, 8⟩
theorem tik289 : tiOf Go.Proofs.Tryz.prog 289 = some ti289 := by kernel_rfl
def ti290 : TI := ⟨.other, 1, false, some (.sc (.nilFunc)), some 8, true, 8⟩
theorem tik290 : tiOf Go.Proofs.Tryz.prog 290 = some ti290 := by kernel_rfl
def ti292 : TI := ⟨.other, 1, false, some (.sc (.nilFunc)), some 8, true, 8⟩
theorem tik292 : tiOf Go.Proofs.Tryz.prog 292 = some ti292 := by kernel_rfl
def ti293 : TI := ⟨.other, 1, false, some (.sc (.pointer none)), some 8, true, 8⟩
theorem tik293 : tiOf Go.Proofs.Tryz.prog 293 = some ti293 := by kernel_rfl
def ti294 : TI := ⟨.other, 1, false, some (.sc (.nilFunc)), some 8, true, 8⟩
theorem tik294 : tiOf Go.Proofs.Tryz.prog 294 = some ti294 := by kernel_rfl
def ti295 : TI := ⟨.other, 1, false, some (.sc (.nilFunc)), some 8, true, 8⟩
theorem tik295 : tiOf Go.Proofs.Tryz.prog 295 = some ti295 := by kernel_rfl
def ti296 : TI := ⟨.other, 1, false, some (.sc (.nilFunc)), some 8, true, 8⟩
theorem tik296 : tiOf Go.Proofs.Tryz.prog 296 = some ti296 := by kernel_rfl
def ti297 : TI := ⟨.other, 1, false, some (.sc (.nilFunc)), some 8, true, 8⟩
theorem tik297 : tiOf Go.Proofs.Tryz.prog 297 = some ti297 := by kernel_rfl
def ti298 : TI := ⟨.array 24 5, 24, true, some (.agg [.sc (.int .u8 0), .sc (.int .u8 0), .sc (.int .u8 0), .sc (.int .u8 0), .sc (.int .u8 0), .sc (.int .u8 0), .sc (.int .u8 0), .sc (.int .u8 0), .sc (.int .u8 0), .sc (.int .u8 0), .sc (.int .u8 0), .sc (.int .u8 0), .sc (.int .u8 0), .sc (.int .u8 0), .sc (.int .u8 0), .sc (.int .u8 0), .sc (.int .u8 0), .sc (.int .u8 0), .sc (.int .u8 0), .sc (.int .u8 0), .sc (.int .u8 0), .sc (.int .u8 0), .sc (.int .u8 0), .sc (.int .u8 0)]), some 24, true, 24⟩
theorem tik298 : tiOf Go.Proofs.Tryz.prog 298 = some ti298 := by kernel_rfl
def ti299 : TI := ⟨.other, 1, false, some (.sc (.nilFunc)), some 8, true, 8⟩
theorem tik299 : tiOf Go.Proofs.Tryz.prog 299 = some ti299 := by kernel_rfl
def ti301 : TI := ⟨.other, 1, false, some (.sc (.nilFunc)), some 8, true, 8⟩
theorem tik301 : tiOf Go.Proofs.Tryz.prog 301 = some ti301 := by kernel_rfl
def ti302 : TI := ⟨.int .i64, 1, false, some (.sc (.int .i64 0)), some 8, true, 8⟩
theorem tik302 : tiOf Go.Proofs.Tryz.prog 302 = some ti302 := by kernel_rfl
def ti304 : TI := ⟨.other, 1, false, some (.sc (.nilFunc)), some 8, true, 8⟩
theorem tik304 : tiOf Go.Proofs.Tryz.prog 304 = some ti304 := by kernel_rfl
def ti305 : TI := ⟨.other, 1, false, some (.sc (.pointer none)), some 8, true, 8⟩
theorem tik305 : tiOf Go.Proofs.Tryz.prog 305 = some ti305 := by kernel_rfl
def ti306 : TI := ⟨.other, 1, false, some (.sc (.nilFunc)), some 8, true, 8⟩
theorem tik306 : tiOf Go.Proofs.Tryz.prog 306 = some ti306 := by kernel_rfl
def ti307 : TI := ⟨.other, 1, false, some (.sc (.nilFunc)), some 8, true, 8⟩
theorem tik307 : tiOf Go.Proofs.Tryz.prog 307 = some ti307 := by kernel_rfl
def ti308 : TI := ⟨.other, 1, false, some (.sc (.nilFunc)), some 8, true, 8⟩
theorem tik308 : tiOf Go.Proofs.Tryz.prog 308 = some ti308 := by kernel_rfl
def ti309 : TI := ⟨.other, 1, false, some (.sc (.nilFunc)), some 8, true, 8⟩
theorem tik309 : tiOf Go.Proofs.Tryz.prog 309 = some ti309 := by kernel_rfl
def ti310 : TI := ⟨.array 20 266, 20, true, some (.agg [.sc (.int .u64 0), .sc (.int .u64 0), .sc (.int .u64 0), .sc (.int .u64 0), .sc (.int .u64 0), .sc (.int .u64 0), .sc (.int .u64 0), .sc (.int .u64 0), .sc (.int .u64 0), .sc (.int .u64 0), .sc (.int .u64 0), .sc (.int .u64 0), .sc (.int .u64 0), .sc (.int .u64 0), .sc (.int .u64 0), .sc (.int .u64 0), .sc (.int .u64 0), .sc (.int .u64 0), .sc (.int .u64 0), .sc (.int .u64 0)]), some 160, true, 160⟩
theorem tik310 : tiOf Go.Proofs.Tryz.prog 310 = some ti310 := by kernel_rfl
def ti313 : TI := ⟨.other, 1, false, some (.sc (.nilFunc)), some 8, true, 8⟩
theorem tik313 : tiOf Go.Proofs.Tryz.prog 313 = some ti313 := by kernel_rfl
def ti314 : TI := ⟨.other, 1, false, some (.sc (.nilFunc)), some 8, true, 8⟩
theorem tik314 : tiOf Go.Proofs.Tryz.prog 314 = some ti314 := by kernel_rfl
def ti315 : TI := ⟨.struct [(0, 9), (1, 9), (2, 232)], 3, true, some (.agg [.sc (.string .empty), .sc (.string .empty), .sc (.nilIface)]), some 48, false, 48⟩
theorem tik315 : tiOf Go.Proofs.Tryz.prog 315 = some ti315 := by kernel_rfl
def ti316 : TI := ⟨.struct [(0, 9), (1, 9), (2, 232)], 3, true, some (.agg [.sc (.string .empty), .sc (.string .empty), .sc (.nilIface)]), some 48, false, 48⟩
theorem tik316 : tiOf Go.Proofs.Tryz.prog 316 = some ti316 := by kernel_rfl
def ti317 : TI := ⟨.other, 1, false, some (.sc (.nilFunc)), some 8, true, 8⟩
theorem tik317 : tiOf Go.Proofs.Tryz.prog 317 = some ti317 := by kernel_rfl
def ti319 : TI := ⟨.struct [(0, 5), (1, 5)], 2, true, some (.agg [.sc (.int .u8 0), .sc (.int .u8 0)]), some 2, true, 2⟩
theorem tik319 : tiOf Go.Proofs.Tryz.prog 319 = some ti319 := by kernel_rfl
def ti320 : TI := ⟨.struct [(0, 5), (1, 5)], 2, true, some (.agg [.sc (.int .u8 0), .sc (.int .u8 0)]), some 2, true, 2⟩
theorem tik320 : tiOf Go.Proofs.Tryz.prog 320 = some ti320 := by kernel_rfl
def ti321 : TI := ⟨.array 16 320, 32, true, some (.agg [.sc (.int .u8 0), .sc (.int .u8 0), .sc (.int .u8 0), .sc (.int .u8 0), .sc (.int .u8 0), .sc (.int .u8 0), .sc (.int .u8 0), .sc (.int .u8 0), .sc (.int .u8 0), .sc (.int .u8 0), .sc (.int .u8 0), .sc (.int .u8 0), .sc (.int .u8 0), .sc (.int .u8 0), .sc (.int .u8 0), .sc (.int .u8 0), .sc (.int .u8 0), .sc (.int .u8 0), .sc (.int .u8 0), .sc (.int .u8 0), .sc (.int .u8 0), .sc (.int .u8 0), .sc (.int .u8 0), .sc (.int .u8 0), .sc (.int .u8 0), .sc (.int .u8 0), .sc (.int .u8 0), .sc (.int .u8 0), .sc (.int .u8 0), .sc (.int .u8 0), .sc (.int .u8 0), .sc (.int .u8 0)]), some 32, true, 32⟩
theorem tik321 : tiOf Go.Proofs.Tryz.prog 321 = some ti321 := by kernel_rfl
def ti323 : TI := ⟨.other, 1, false, some (.sc (.nilFunc)), some 8, true, 8⟩
theorem tik323 : tiOf Go.Proofs.Tryz.prog 323 = some ti323 := by kernel_rfl
def ti324 : TI := ⟨.other, 1, false, some (.sc (.nilFunc)), some 8, true, 8⟩
theorem tik324 : tiOf Go.Proofs.Tryz.prog 324 = some ti324 := by kernel_rfl
def ti325 : TI := ⟨.other, 1, false, some (.sc (.pointer none)), some 8, true, 8⟩
theorem tik325 : tiOf Go.Proofs.Tryz.prog 325 = some ti325 := by kernel_rfl
def ti326 : TI := ⟨.struct [(0, 9)], 1, true, some (.agg [.sc (.string .empty)]), some 16, true, 16⟩
theorem tik326 : tiOf Go.Proofs.Tryz.prog 326 = some ti326 := by kernel_rfl
def ti327 : TI := ⟨.struct [(0, 9)], 1, true, some (.agg [.sc (.string .empty)]), some 16, true, 16⟩
theorem tik327 : tiOf Go.Proofs.Tryz.prog 327 = some ti327 := by kernel_rfl
def ti328 : TI := ⟨.array 32 5, 32, true, some (.agg [.sc (.int .u8 0), .sc (.int .u8 0), .sc (.int .u8 0), .sc (.int .u8 0), .sc (.int .u8 0), .sc (.int .u8 0), .sc (.int .u8 0), .sc (.int .u8 0), .sc (.int .u8 0), .sc (.int .u8 0), .sc (.int .u8 0), .sc (.int .u8 0), .sc (.int .u8 0), .sc (.int .u8 0), .sc (.int .u8 0), .sc (.int .u8 0), .sc (.int .u8 0), .sc (.int .u8 0), .sc (.int .u8 0), .sc (.int .u8 0), .sc (.int .u8 0), .sc (.int .u8 0), .sc (.int .u8 0), .sc (.int .u8 0), .sc (.int .u8 0), .sc (.int .u8 0), .sc (.int .u8 0), .sc (.int .u8 0), .sc (.int .u8 0), .sc (.int .u8 0), .sc (.int .u8 0), .sc (.int .u8 0)]), some 32, true, 32⟩
theorem tik328 : tiOf Go.Proofs.Tryz.prog 328 = some ti328 := by kernel_rfl
def ti329 : TI := ⟨.array 64 5, 64, true, some (.agg [.sc (.int .u8 0), .sc (.int .u8 0), .sc (.int .u8 0), .sc (.int .u8 0), .sc (.int .u8 0), .sc (.int .u8 0), .sc (.int .u8 0), .sc (.int .u8 0), .sc (.int .u8 0), .sc (.int .u8 0), .sc (.int .u8 0), .sc (.int .u8 0), .sc (.int .u8 0), .sc (.int .u8 0), .sc (.int .u8 0), .sc (.int .u8 0), .sc (.int .u8 0), .sc (.int .u8 0), .sc (.int .u8 0), .sc (.int .u8 0), .sc (.int .u8 0), .sc (.int .u8 0), .sc (.int .u8 0), .sc (.int .u8 0), .sc (.int .u8 0), .sc (.int .u8 0), .sc (.int .u8 0), .sc (.int .u8 0), .sc (.int .u8 0), .sc (.int .u8 0), .sc (.int .u8 0), .sc (.int .u8 0), .sc (.int .u8 0), .sc (.int .u8 0), .sc (.int .u8 0), .sc (.int .u8 0), .sc (.int .u8 0), .sc (.int .u8 0), .sc (.int .u8 0), .sc (.int .u8 0), .sc (.int .u8 0), .sc (.int .u8 0), .sc (.int .u8 0), .sc (.int .u8 0), .sc (.int .u8 0), .sc (.int .u8 0), .sc (.int .u8 0), .sc (.int .u8 0), .sc (.int .u8 0), .sc (.int .u8 0), .sc (.int .u8 0), .sc (.int .u8 0), .sc (.int .u8 0), .sc (.int .u8 0), .sc (.int .u8 0), .sc (.int .u8 0), .sc (.int .u8 0), .sc (.int .u8 0), .sc (.int .u8 0), .sc (.int .u8 0), .sc (.int .u8 0), .sc (.int .u8 0), .sc (.int .u8 0), .sc (.int .u8 0)]), some 64, true, 64⟩
theorem tik329 : tiOf Go.Proofs.Tryz.prog 329 = some ti329 := by kernel_rfl
def ti330 : TI := ⟨.struct [(0, 17), (1, 17), (2, 17), (3, 9)], 4, true, some (.agg [.sc (.pointer none), .sc (.pointer none), .sc (.pointer none), .sc (.string .empty)]), some 40, false, 40⟩
theorem tik330 : tiOf Go.Proofs.Tryz.prog 330 = some ti330 := by kernel_rfl
def ti331 : TI := ⟨.struct [(0, 17), (1, 17), (2, 17), (3, 9)], 4, true, some (.agg [.sc (.pointer none), .sc (.pointer none), .sc (.pointer none), .sc (.string .empty)]), some 40, false, 40⟩
theorem tik331 : tiOf Go.Proofs.Tryz.prog 331 = some ti331 := by kernel_rfl
def ti332 : TI := ⟨.array 0 16, 0, true, some (.agg []), none, true, 0⟩
theorem tik332 : tiOf Go.Proofs.Tryz.prog 332 = some ti332 := by kernel_rfl
def ti333 : TI := ⟨.struct [(0, 332)], 0, true, some (.agg []), none, false, 0⟩
theorem tik333 : tiOf Go.Proofs.Tryz.prog 333 = some ti333 := by kernel_rfl
def ti334 : TI := ⟨.struct [(0, 332)], 0, true, some (.agg []), none, false, 0⟩
theorem tik334 : tiOf Go.Proofs.Tryz.prog 334 = some ti334 := by kernel_rfl
def ti335 : TI := ⟨.int .u8, 1, false, some (.sc (.int .u8 0)), some 1, true, 1⟩
theorem tik335 : tiOf Go.Proofs.Tryz.prog 335 = some ti335 := by kernel_rfl
def ti336 : TI := ⟨.int .u8, 1, false, some (.sc (.int .u8 0)), some 1, true, 1⟩
theorem tik336 : tiOf Go.Proofs.Tryz.prog 336 = some ti336 := by kernel_rfl
def ti337 : TI := ⟨.other, 1, false, some (.sc (.nilFunc)), some 8, true, 8⟩
theorem tik337 : tiOf Go.Proofs.Tryz.prog 337 = some ti337 := by kernel_rfl
def ti338 : TI := ⟨.int .i32, 1, false, some (.sc (.int .i32 0)), some 4, true, 4⟩
theorem tik338 : tiOf Go.Proofs.Tryz.prog 338 = some ti338 := by kernel_rfl
def ti339 : TI := ⟨.int .i32, 1, false, some (.sc (.int .i32 0)), some 4, true, 4⟩
theorem tik339 : tiOf Go.Proofs.Tryz.prog 339 = some ti339 := by kernel_rfl
def ti340 : TI := ⟨.struct [(0, 12), (1, 12), (2, 264), (3, 335), (4, 5), (5, 5), (6, 336), (7, 337), (8, 271), (9, 338), (10, 339)], 11, true, some (.agg [.sc (.int .u64 0), .sc (.int .u64 0), .sc (.int .u32 0), .sc (.int .u8 0), .sc (.int .u8 0), .sc (.int .u8 0), .sc (.int .u8 0), .sc (.nilFunc), .sc (.pointer none), .sc (.int .i32 0), .sc (.int .i32 0)]), some 48, false, 48⟩
theorem tik340 : tiOf Go.Proofs.Tryz.prog 340 = some ti340 := by kernel_rfl
def ti341 : TI := ⟨.struct [(0, 12), (1, 12), (2, 264), (3, 335), (4, 5), (5, 5), (6, 336), (7, 337), (8, 271), (9, 338), (10, 339)], 11, true, some (.agg [.sc (.int .u64 0), .sc (.int .u64 0), .sc (.int .u32 0), .sc (.int .u8 0), .sc (.int .u8 0), .sc (.int .u8 0), .sc (.int .u8 0), .sc (.nilFunc), .sc (.pointer none), .sc (.int .i32 0), .sc (.int .i32 0)]), some 48, false, 48⟩
theorem tik341 : tiOf Go.Proofs.Tryz.prog 341 = some ti341 := by kernel_rfl
def tabT : TT := (.node (.node (.node (.node (.node (.node (.node (.node (.node .nil 1 ti1 .nil) 2 ti2 .nil) 3 ti3 (.node .nil 4 ti4 .nil)) 5 ti5 (.node (.node (.node .nil 6 ti6 .nil) 7 ti7 .nil) 8 ti8 (.node .nil 9 ti9 .nil))) 10 ti10 (.node (.node (.node (.node .nil 11 ti11 .nil) 12 ti12 .nil) 13 ti13 (.node .nil 14 ti14 .nil)) 15 ti15 (.node (.node (.node .nil 16 ti16 .nil) 17 ti17 .nil) 18 ti18 (.node .nil 19 ti19 .nil)))) 20 ti20 (.node (.node (.node (.node (.node .nil 21 ti21 .nil) 22 ti22 .nil) 23 ti23 (.node .nil 24 ti24 .nil)) 25 ti25 (.node (.node (.node .nil 26 ti26 .nil) 27 ti27 .nil) 28 ti28 (.node .nil 29 ti29 .nil))) 30 ti30 (.node (.node (.node (.node .nil 31 ti31 .nil) 33 ti33 .nil) 34 ti34 (.node .nil 35 ti35 .nil)) 36 ti36 (.node (.node (.node .nil 37 ti37 .nil) 38 ti38 .nil) 39 ti39 (.node .nil 40 ti40 .nil))))) 41 ti41 (.node (.node (.node (.node (.node (.node .nil 43 ti43 .nil) 45 ti45 .nil) 46 ti46 (.node .nil 47 ti47 .nil)) 48 ti48 (.node (.node (.node .nil 49 ti49 .nil) 50 ti50 .nil) 51 ti51 (.node .nil 52 ti52 .nil))) 53 ti53 (.node (.node (.node (.node .nil 54 ti54 .nil) 56 ti56 .nil) 57 ti57 (.node .nil 58 ti58 .nil)) 59 ti59 (.node (.node (.node .nil 61 ti61 .nil) 62 ti62 .nil) 63 ti63 (.node .nil 64 ti64 .nil)))) 65 ti65 (.node (.node (.node (.node (.node .nil 66 ti66 .nil) 67 ti67 .nil) 68 ti68 (.node .nil 70 ti70 .nil)) 71 ti71 (.node (.node (.node .nil 72 ti72 .nil) 73 ti73 .nil) 74 ti74 (.node .nil 75 ti75 .nil))) 76 ti76 (.node (.node (.node (.node .nil 77 ti77 .nil) 79 ti79 .nil) 80 ti80 (.node .nil 81 ti81 .nil)) 82 ti82 (.node (.node .nil 84 ti84 .nil) 85 ti85 (.node .nil 86 ti86 .nil)))))) 87 ti87 (.node (.node (.node (.node (.node (.node (.node .nil 88 ti88 .nil) 89 ti89 .nil) 90 ti90 (.node .nil 91 ti91 .nil)) 92 ti92 (.node (.node (.node .nil 93 ti93 .nil) 95 ti95 .nil) 96 ti96 (.node .nil 97 ti97 .nil))) 98 ti98 (.node (.node (.node (.node .nil 99 ti99 .nil) 100 ti100 .nil) 101 ti101 (.node .nil 103 ti103 .nil)) 104 ti104 (.node (.node (.node .nil 105 ti105 .nil) 106 ti106 .nil) 107 ti107 (.node .nil 108 ti108 .nil)))) 109 ti109 (.node (.node (.node (.node (.node .nil 110 ti110 .nil) 111 ti111 .nil) 112 ti112 (.node .nil 113 ti113 .nil)) 114 ti114 (.node (.node (.node .nil 115 ti115 .nil) 116 ti116 .nil) 117 ti117 (.node .nil 118 ti118 .nil))) 119 ti119 (.node (.node (.node (.node .nil 120 ti120 .nil) 121 ti121 .nil) 122 ti122 (.node .nil 123 ti123 .nil)) 124 ti124 (.node (.node .nil 125 ti125 .nil) 126 ti126 (.node .nil 127 ti127 .nil))))) 128 ti128 (.node (.node (.node (.node (.node (.node .nil 129 ti129 .nil) 130 ti130 .nil) 131 ti131 (.node .nil 132 ti132 .nil)) 134 ti134 (.node (.node (.node .nil 136 ti136 .nil) 137 ti137 .nil) 138 ti138 (.node .nil 139 ti139 .nil))) 140 ti140 (.node (.node (.node (.node .nil 141 ti141 .nil) 142 ti142 .nil) 143 ti143 (.node .nil 145 ti145 .nil)) 146 ti146 (.node (.node (.node .nil 147 ti147 .nil) 148 ti148 .nil) 149 ti149 (.node .nil 150 ti150 .nil)))) 152 ti152 (.node (.node (.node (.node (.node .nil 153 ti153 .nil) 154 ti154 .nil) 155 ti155 (.node .nil 156 ti156 .nil)) 157 ti157 (.node (.node (.node .nil 158 ti158 .nil) 159 ti159 .nil) 160 ti160 (.node .nil 161 ti161 .nil))) 162 ti162 (.node (.node (.node (.node .nil 163 ti163 .nil) 164 ti164 .nil) 165 ti165 (.node .nil 166 ti166 .nil)) 167 ti167 (.node (.node .nil 168 ti168 .nil) 169 ti169 (.node .nil 170 ti170 .nil))))))) 171 ti171 (.node (.node (.node (.node (.node (.node (.node (.node .nil 172 ti172 .nil) 173 ti173 .nil) 174 ti174 (.node .nil 175 ti175 .nil)) 176 ti176 (.node (.node (.node .nil 177 ti177 .nil) 178 ti178 .nil) 180 ti180 (.node .nil 181 ti181 .nil))) 182 ti182 (.node (.node (.node (.node .nil 183 ti183 .nil) 184 ti184 .nil) 185 ti185 (.node .nil 186 ti186 .nil)) 187 ti187 (.node (.node (.node .nil 188 ti188 .nil) 189 ti189 .nil) 190 ti190 (.node .nil 191 ti191 .nil)))) 192 ti192 (.node (.node (.node (.node (.node .nil 193 ti193 .nil) 194 ti194 .nil) 195 ti195 (.node .nil 196 ti196 .nil)) 197 ti197 (.node (.node (.node .nil 198 ti198 .nil) 199 ti199 .nil) 200 ti200 (.node .nil 201 ti201 .nil))) 202 ti202 (.node (.node (.node (.node .nil 203 ti203 .nil) 204 ti204 .nil) 205 ti205 (.node .nil 206 ti206 .nil)) 207 ti207 (.node (.node (.node .nil 208 ti208 .nil) 209 ti209 .nil) 210 ti210 (.node .nil 211 ti211 .nil))))) 213 ti213 (.node (.node (.node (.node (.node (.node .nil 214 ti214 .nil) 215 ti215 .nil) 216 ti216 (.node .nil 217 ti217 .nil)) 218 ti218 (.node (.node (.node .nil 219 ti219 .nil) 220 ti220 .nil) 221 ti221 (.node .nil 222 ti222 .nil))) 223 ti223 (.node (.node (.node (.node .nil 224 ti224 .nil) 225 ti225 .nil) 226 ti226 (.node .nil 227 ti227 .nil)) 228 ti228 (.node (.node (.node .nil 229 ti229 .nil) 230 ti230 .nil) 231 ti231 (.node .nil 232 ti232 .nil)))) 234 ti234 (.node (.node (.node (.node (.node .nil 235 ti235 .nil) 236 ti236 .nil) 237 ti237 (.node .nil 238 ti238 .nil)) 239 ti239 (.node (.node (.node .nil 240 ti240 .nil) 241 ti241 .nil) 242 ti242 (.node .nil 243 ti243 .nil))) 244 ti244 (.node (.node (.node (.node .nil 245 ti245 .nil) 246 ti246 .nil) 249 ti249 (.node .nil 250 ti250 .nil)) 251 ti251 (.node (.node .nil 252 ti252 .nil) 253 ti253 (.node .nil 254 ti254 .nil)))))) 255 ti255 (.node (.node (.node (.node (.node (.node (.node .nil 256 ti256 .nil) 257 ti257 .nil) 259 ti259 (.node .nil 260 ti260 .nil)) 261 ti261 (.node (.node (.node .nil 262 ti262 .nil) 263 ti263 .nil) 264 ti264 (.node .nil 265 ti265 .nil))) 266 ti266 (.node (.node (.node (.node .nil 267 ti267 .nil) 268 ti268 .nil) 269 ti269 (.node .nil 270 ti270 .nil)) 271 ti271 (.node (.node (.node .nil 273 ti273 .nil) 274 ti274 .nil) 275 ti275 (.node .nil 276 ti276 .nil)))) 277 ti277 (.node (.node (.node (.node (.node .nil 278 ti278 .nil) 279 ti279 .nil) 280 ti280 (.node .nil 281 ti281 .nil)) 282 ti282 (.node (.node (.node .nil 283 ti283 .nil) 284 ti284 .nil) 285 ti285 (.node .nil 286 ti286 .nil))) 287 ti287 (.node (.node (.node (.node .nil 288 ti288 .nil) 289 ti289 .nil) 290 ti290 (.node .nil 292 ti292 .nil)) 293 ti293 (.node (.node .nil 294 ti294 .nil) 295 ti295 (.node .nil 296 ti296 .nil))))) 297 ti297 (.node (.node (.node (.node (.node (.node .nil 298 ti298 .nil) 299 ti299 .nil) 301 ti301 (.node .nil 302 ti302 .nil)) 304 ti304 (.node (.node (.node .nil 305 ti305 .nil) 306 ti306 .nil) 307 ti307 (.node .nil 308 ti308 .nil))) 309 ti309 (.node (.node (.node (.node .nil 310 ti310 .nil) 313 ti313 .nil) 314 ti314 (.node .nil 315 ti315 .nil)) 316 ti316 (.node (.node (.node .nil 317 ti317 .nil) 319 ti319 .nil) 320 ti320 (.node .nil 321 ti321 .nil)))) 323 ti323 (.node (.node (.node (.node (.node .nil 324 ti324 .nil) 325 ti325 .nil) 326 ti326 (.node .nil 327 ti327 .nil)) 328 ti328 (.node (.node (.node .nil 329 ti329 .nil) 330 ti330 .nil) 331 ti331 (.node .nil 332 ti332 .nil))) 333 ti333 (.node (.node (.node (.node .nil 334 ti334 .nil) 335 ti335 .nil) 336 ti336 (.node .nil 337 ti337 .nil)) 338 ti338 (.node (.node .nil 339 ti339 .nil) 340 ti340 (.node .nil 341 ti341 .nil))))))))
theorem tabOk : tabT.Ok Go.Proofs.Tryz.prog := ⟨tik171, ⟨tik87, ⟨tik41, ⟨tik20, ⟨tik10, ⟨tik5, ⟨tik3, ⟨tik2, ⟨tik1, trivial, trivial⟩, trivial⟩, ⟨tik4, trivial, trivial⟩⟩, ⟨tik8, ⟨tik7, ⟨tik6, trivial, trivial⟩, trivial⟩, ⟨tik9, trivial, trivial⟩⟩⟩, ⟨tik15, ⟨tik13, ⟨tik12, ⟨tik11, trivial, trivial⟩, trivial⟩, ⟨tik14, trivial, trivial⟩⟩, ⟨tik18, ⟨tik17, ⟨tik16, trivial, trivial⟩, trivial⟩, ⟨tik19, trivial, trivial⟩⟩⟩⟩, ⟨tik30, ⟨tik25, ⟨tik23, ⟨tik22, ⟨tik21, trivial, trivial⟩, trivial⟩, ⟨tik24, trivial, trivial⟩⟩, ⟨tik28, ⟨tik27, ⟨tik26, trivial, trivial⟩, trivial⟩, ⟨tik29, trivial, trivial⟩⟩⟩, ⟨tik36, ⟨tik34, ⟨tik33, ⟨tik31, trivial, trivial⟩, trivial⟩, ⟨tik35, trivial, trivial⟩⟩, ⟨tik39, ⟨tik38, ⟨tik37, trivial, trivial⟩, trivial⟩, ⟨tik40, trivial, trivial⟩⟩⟩⟩⟩, ⟨tik65, ⟨tik53, ⟨tik48, ⟨tik46, ⟨tik45, ⟨tik43, trivial, trivial⟩, trivial⟩, ⟨tik47, trivial, trivial⟩⟩, ⟨tik51, ⟨tik50, ⟨tik49, trivial, trivial⟩, trivial⟩, ⟨tik52, trivial, trivial⟩⟩⟩, ⟨tik59, ⟨tik57, ⟨tik56, ⟨tik54, trivial, trivial⟩, trivial⟩, ⟨tik58, trivial, trivial⟩⟩, ⟨tik63, ⟨tik62, ⟨tik61, trivial, trivial⟩, trivial⟩, ⟨tik64, trivial, trivial⟩⟩⟩⟩, ⟨tik76, ⟨tik71, ⟨tik68, ⟨tik67, ⟨tik66, trivial, trivial⟩, trivial⟩, ⟨tik70, trivial, trivial⟩⟩, ⟨tik74, ⟨tik73, ⟨tik72, trivial, trivial⟩, trivial⟩, ⟨tik75, trivial, trivial⟩⟩⟩, ⟨tik82, ⟨tik80, ⟨tik79, ⟨tik77, trivial, trivial⟩, trivial⟩, ⟨tik81, trivial, trivial⟩⟩, ⟨tik85, ⟨tik84, trivial, trivial⟩, ⟨tik86, trivial, trivial⟩⟩⟩⟩⟩⟩, ⟨tik128, ⟨tik109, ⟨tik98, ⟨tik92, ⟨tik90, ⟨tik89, ⟨tik88, trivial, trivial⟩, trivial⟩, ⟨tik91, trivial, trivial⟩⟩, ⟨tik96, ⟨tik95, ⟨tik93, trivial, trivial⟩, trivial⟩, ⟨tik97, trivial, trivial⟩⟩⟩, ⟨tik104, ⟨tik101, ⟨tik100, ⟨tik99, trivial, trivial⟩, trivial⟩, ⟨tik103, trivial, trivial⟩⟩, ⟨tik107, ⟨tik106, ⟨tik105, trivial, trivial⟩, trivial⟩, ⟨tik108, trivial, trivial⟩⟩⟩⟩, ⟨tik119, ⟨tik114, ⟨tik112, ⟨tik111, ⟨tik110, trivial, trivial⟩, trivial⟩, ⟨tik113, trivial, trivial⟩⟩, ⟨tik117, ⟨tik116, ⟨tik115, trivial, trivial⟩, trivial⟩, ⟨tik118, trivial, trivial⟩⟩⟩, ⟨tik124, ⟨tik122, ⟨tik121, ⟨tik120, trivial, trivial⟩, trivial⟩, ⟨tik123, trivial, trivial⟩⟩, ⟨tik126, ⟨tik125, trivial, trivial⟩, ⟨tik127, trivial, trivial⟩⟩⟩⟩⟩, ⟨tik152, ⟨tik140, ⟨tik134, ⟨tik131, ⟨tik130, ⟨tik129, trivial, trivial⟩, trivial⟩, ⟨tik132, trivial, trivial⟩⟩, ⟨tik138, ⟨tik137, ⟨tik136, trivial, trivial⟩, trivial⟩, ⟨tik139, trivial, trivial⟩⟩⟩, ⟨tik146, ⟨tik143, ⟨tik142, ⟨tik141, trivial, trivial⟩, trivial⟩, ⟨tik145, trivial, trivial⟩⟩, ⟨tik149, ⟨tik148, ⟨tik147, trivial, trivial⟩, trivial⟩, ⟨tik150, trivial, trivial⟩⟩⟩⟩, ⟨tik162, ⟨tik157, ⟨tik155, ⟨tik154, ⟨tik153, trivial, trivial⟩, trivial⟩, ⟨tik156, trivial, trivial⟩⟩, ⟨tik160, ⟨tik159, ⟨tik158, trivial, trivial⟩, trivial⟩, ⟨tik161, trivial, trivial⟩⟩⟩, ⟨tik167, ⟨tik165, ⟨tik164, ⟨tik163, trivial, trivial⟩, trivial⟩, ⟨tik166, trivial, trivial⟩⟩, ⟨tik169, ⟨tik168, trivial, trivial⟩, ⟨tik170, trivial, trivial⟩⟩⟩⟩⟩⟩⟩, ⟨tik255, ⟨tik213, ⟨tik192, ⟨tik182, ⟨tik176, ⟨tik174, ⟨tik173, ⟨tik172, trivial, trivial⟩, trivial⟩, ⟨tik175, trivial, trivial⟩⟩, ⟨tik180, ⟨tik178, ⟨tik177, trivial, trivial⟩, trivial⟩, ⟨tik181, trivial, trivial⟩⟩⟩, ⟨tik187, ⟨tik185, ⟨tik184, ⟨tik183, trivial, trivial⟩, trivial⟩, ⟨tik186, trivial, trivial⟩⟩, ⟨tik190, ⟨tik189, ⟨tik188, trivial, trivial⟩, trivial⟩, ⟨tik191, trivial, trivial⟩⟩⟩⟩, ⟨tik202, ⟨tik197, ⟨tik195, ⟨tik194, ⟨tik193, trivial, trivial⟩, trivial⟩, ⟨tik196, trivial, trivial⟩⟩, ⟨tik200, ⟨tik199, ⟨tik198, trivial, trivial⟩, trivial⟩, ⟨tik201, trivial, trivial⟩⟩⟩, ⟨tik207, ⟨tik205, ⟨tik204, ⟨tik203, trivial, trivial⟩, trivial⟩, ⟨tik206, trivial, trivial⟩⟩, ⟨tik210, ⟨tik209, ⟨tik208, trivial, trivial⟩, trivial⟩, ⟨tik211, trivial, trivial⟩⟩⟩⟩⟩, ⟨tik234, ⟨tik223, ⟨tik218, ⟨tik216, ⟨tik215, ⟨tik214, trivial, trivial⟩, trivial⟩, ⟨tik217, trivial, trivial⟩⟩, ⟨tik221, ⟨tik220, ⟨tik219, trivial, trivial⟩, trivial⟩, ⟨tik222, trivial, trivial⟩⟩⟩, ⟨tik228, ⟨tik226, ⟨tik225, ⟨tik224, trivial, trivial⟩, trivial⟩, ⟨tik227, trivial, trivial⟩⟩, ⟨tik231, ⟨tik230, ⟨tik229, trivial, trivial⟩, trivial⟩, ⟨tik232, trivial, trivial⟩⟩⟩⟩, ⟨tik244, ⟨tik239, ⟨tik237, ⟨tik236, ⟨tik235, trivial, trivial⟩, trivial⟩, ⟨tik238, trivial, trivial⟩⟩, ⟨tik242, ⟨tik241, ⟨tik240, trivial, trivial⟩, trivial⟩, ⟨tik243, trivial, trivial⟩⟩⟩, ⟨tik251, ⟨tik249, ⟨tik246, ⟨tik245, trivial, trivial⟩, trivial⟩, ⟨tik250, trivial, trivial⟩⟩, ⟨tik253, ⟨tik252, trivial, trivial⟩, ⟨tik254, trivial, trivial⟩⟩⟩⟩⟩⟩, ⟨tik297, ⟨tik277, ⟨tik266, ⟨tik261, ⟨tik259, ⟨tik257, ⟨tik256, trivial, trivial⟩, trivial⟩, ⟨tik260, trivial, trivial⟩⟩, ⟨tik264, ⟨tik263, ⟨tik262, trivial, trivial⟩, trivial⟩, ⟨tik265, trivial, trivial⟩⟩⟩, ⟨tik271, ⟨tik269, ⟨tik268, ⟨tik267, trivial, trivial⟩, trivial⟩, ⟨tik270, trivial, trivial⟩⟩, ⟨tik275, ⟨tik274, ⟨tik273, trivial, trivial⟩, trivial⟩, ⟨tik276, trivial, trivial⟩⟩⟩⟩, ⟨tik287, ⟨tik282, ⟨tik280, ⟨tik279, ⟨tik278, trivial, trivial⟩, trivial⟩, ⟨tik281, trivial, trivial⟩⟩, ⟨tik285, ⟨tik284, ⟨tik283, trivial, trivial⟩, trivial⟩, ⟨tik286, trivial, trivial⟩⟩⟩, ⟨tik293, ⟨tik290, ⟨tik289, ⟨tik288, trivial, trivial⟩, trivial⟩, ⟨tik292, trivial, trivial⟩⟩, ⟨tik295, ⟨tik294, trivial, trivial⟩, ⟨tik296, trivial, trivial⟩⟩⟩⟩⟩, ⟨tik323, ⟨tik309, ⟨tik304, ⟨tik301, ⟨tik299, ⟨tik298, trivial, trivial⟩, trivial⟩, ⟨tik302, trivial, trivial⟩⟩, ⟨tik307, ⟨tik306, ⟨tik305, trivial, trivial⟩, trivial⟩, ⟨tik308, trivial, trivial⟩⟩⟩, ⟨tik316, ⟨tik314, ⟨tik313, ⟨tik310, trivial, trivial⟩, trivial⟩, ⟨tik315, trivial, trivial⟩⟩, ⟨tik320, ⟨tik319, ⟨tik317, trivial, trivial⟩, trivial⟩, ⟨tik321, trivial, trivial⟩⟩⟩⟩, ⟨tik333, ⟨tik328, ⟨tik326, ⟨tik325, ⟨tik324, trivial, trivial⟩, trivial⟩, ⟨tik327, trivial, trivial⟩⟩, ⟨tik331, ⟨tik330, ⟨tik329, trivial, trivial⟩, trivial⟩, ⟨tik332, trivial, trivial⟩⟩⟩, ⟨tik338, ⟨tik336, ⟨tik335, ⟨tik334, trivial, trivial⟩, trivial⟩, ⟨tik337, trivial, trivial⟩⟩, ⟨tik340, ⟨tik339, trivial, trivial⟩, ⟨tik341, trivial, trivial⟩⟩⟩⟩⟩⟩⟩⟩
def tab (t : TypeId) : Option TI := tabT.get t
end Go.Proofs.Ax.Tryz
