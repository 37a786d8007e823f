/- A part of the theory and of the contracts: Tab, Av14, Sp, Ex, R02, Pf1, W1, W2, Un, Ls, Lk0, R04, R02b, R02c, R04b. No condition. -/
import Derived.Test.YtkdendaohlnlcaaGreatMb
import Derived.Test.YtkdendaohlnlcaaGreatChecked
import Derived.Eval
/- The types of the translation, as the theory wants them: they are the program's. No condition. -/
namespace Go.Proofs.YtkdendaohlnlcaaGreat.Av

def tab : Tab
  | 1 => some ⟨.func, 1, 8, .nilFunc⟩
  | 2 => some ⟨.int .i64, 1, 8, .int .i64 0⟩
  | 3 => some ⟨.int .i64, 1, 8, .int .i64 0⟩
  | 4 => some ⟨.bool, 1, 1, .bool false⟩
  | 5 => some ⟨.int .u8, 1, 1, .int .u8 0⟩
  | 6 => some ⟨.int .u8, 1, 1, .int .u8 0⟩
  | 7 => some ⟨.struct [(0, 2), (1, 3), (2, 4), (3, 6)], 4, 24, .agg #[.int .i64 0, .int .i64 0, .bool false, .int .u8 0]⟩
  | 8 => some ⟨.struct [(0, 2), (1, 3), (2, 4), (3, 6)], 4, 24, .agg #[.int .i64 0, .int .i64 0, .bool false, .int .u8 0]⟩
  | 9 => some ⟨.string, 1, 16, .string ⟨#[]⟩⟩
  | 10 => some ⟨.string, 1, 16, .string ⟨#[]⟩⟩
  | 11 => some ⟨.string, 1, 16, .string ⟨#[]⟩⟩
  | 12 => some ⟨.int .u64, 1, 8, .int .u64 0⟩
  | 13 => some ⟨.struct [(0, 9), (1, 12)], 2, 24, .agg #[.string ⟨#[]⟩, .int .u64 0]⟩
  | 14 => some ⟨.struct [(0, 9), (1, 12)], 2, 24, .agg #[.string ⟨#[]⟩, .int .u64 0]⟩
  | 15 => some ⟨.pointer 150, 1, 8, .pointer none⟩
  | 16 => some ⟨.pointer 153, 1, 8, .pointer none⟩
  | 17 => some ⟨.pointer 163, 1, 8, .pointer none⟩
  | 18 => some ⟨.struct [(0, 17)], 1, 8, .agg #[.pointer none]⟩
  | 19 => some ⟨.struct [(0, 17)], 1, 8, .agg #[.pointer none]⟩
  | 20 => some ⟨.iface 0, 1, 16, .nilIface⟩
  | 21 => some ⟨.int .i32, 1, 4, .int .i32 0⟩
  | 22 => some ⟨.slice 35, 1, 24, .slice none 0 0⟩
  | 23 => some ⟨.int .i64, 1, 8, .int .i64 0⟩
  | 25 => some ⟨.func, 1, 8, .nilFunc⟩
  | 26 => some ⟨.func, 1, 8, .nilFunc⟩
  | 28 => some ⟨.func, 1, 8, .nilFunc⟩
  | 29 => some ⟨.func, 1, 8, .nilFunc⟩
  | 30 => some ⟨.func, 1, 8, .nilFunc⟩
  | 31 => some ⟨.slice 33, 1, 24, .slice none 0 0⟩
  | 32 => some ⟨.struct [(0, 3), (1, 3), (2, 31)], 3, 40, .agg #[.int .i64 0, .int .i64 0, .slice none 0 0]⟩
  | 33 => some ⟨.struct [(0, 3), (1, 3), (2, 31)], 3, 40, .agg #[.int .i64 0, .int .i64 0, .slice none 0 0]⟩
  | 34 => some ⟨.struct [(0, 33), (3, 3), (4, 3), (5, 3)], 6, 64, .agg #[.int .i64 0, .int .i64 0, .slice none 0 0, .int .i64 0, .int .i64 0, .int .i64 0]⟩
  | 35 => some ⟨.struct [(0, 33), (3, 3), (4, 3), (5, 3)], 6, 64, .agg #[.int .i64 0, .int .i64 0, .slice none 0 0, .int .i64 0, .int .i64 0, .int .i64 0]⟩
  | 36 => some ⟨.func, 1, 8, .nilFunc⟩
  | 37 => some ⟨.func, 1, 8, .nilFunc⟩
  | 38 => some ⟨.func, 1, 8, .nilFunc⟩
  | 39 => some ⟨.slice 3, 1, 24, .slice none 0 0⟩
  | 40 => some ⟨.func, 1, 8, .nilFunc⟩
  | 41 => some ⟨.slice 4, 1, 24, .slice none 0 0⟩
  | 42 => some ⟨.func, 1, 8, .nilFunc⟩
  | 43 => some ⟨.func, 1, 8, .nilFunc⟩
  | 44 => some ⟨.func, 1, 8, .nilFunc⟩
  | 45 => some ⟨.func, 1, 8, .nilFunc⟩
  | 47 => some ⟨.func, 1, 8, .nilFunc⟩
  | 48 => some ⟨.func, 1, 8, .nilFunc⟩
  | 50 => some ⟨.func, 1, 8, .nilFunc⟩
  | 51 => some ⟨.func, 1, 8, .nilFunc⟩
  | 52 => some ⟨.func, 1, 8, .nilFunc⟩
  | 53 => some ⟨.func, 1, 8, .nilFunc⟩
  | 54 => some ⟨.func, 1, 8, .nilFunc⟩
  | 55 => some ⟨.func, 1, 8, .nilFunc⟩
  | 56 => some ⟨.func, 1, 8, .nilFunc⟩
  | 57 => some ⟨.func, 1, 8, .nilFunc⟩
  | 58 => some ⟨.func, 1, 8, .nilFunc⟩
  | 59 => some ⟨.func, 1, 8, .nilFunc⟩
  | 60 => some ⟨.func, 1, 8, .nilFunc⟩
  | 61 => some ⟨.struct [(0, 31), (1, 3)], 2, 32, .agg #[.slice none 0 0, .int .i64 0]⟩
  | 62 => some ⟨.struct [(0, 31), (1, 3)], 2, 32, .agg #[.slice none 0 0, .int .i64 0]⟩
  | 64 => some ⟨.func, 1, 8, .nilFunc⟩
  | 65 => some ⟨.func, 1, 8, .nilFunc⟩
  | 66 => some ⟨.func, 1, 8, .nilFunc⟩
  | 67 => some ⟨.func, 1, 8, .nilFunc⟩
  | 69 => some ⟨.func, 1, 8, .nilFunc⟩
  | 70 => some ⟨.func, 1, 8, .nilFunc⟩
  | 71 => some ⟨.func, 1, 8, .nilFunc⟩
  | 72 => some ⟨.func, 1, 8, .nilFunc⟩
  | 73 => some ⟨.iface 1, 1, 16, .nilIface⟩
  | 74 => some ⟨.iface 1, 1, 16, .nilIface⟩
  | 75 => some ⟨.func, 1, 8, .nilFunc⟩
  | 76 => some ⟨.struct [(0, 33), (3, 33)], 6, 80, .agg #[.int .i64 0, .int .i64 0, .slice none 0 0, .int .i64 0, .int .i64 0, .slice none 0 0]⟩
  | 77 => some ⟨.struct [(0, 33), (3, 33)], 6, 80, .agg #[.int .i64 0, .int .i64 0, .slice none 0 0, .int .i64 0, .int .i64 0, .slice none 0 0]⟩
  | 78 => some ⟨.struct [(0, 33), (3, 33)], 6, 80, .agg #[.int .i64 0, .int .i64 0, .slice none 0 0, .int .i64 0, .int .i64 0, .slice none 0 0]⟩
  | 79 => some ⟨.struct [(0, 3), (1, 33)], 4, 48, .agg #[.int .i64 0, .int .i64 0, .int .i64 0, .slice none 0 0]⟩
  | 80 => some ⟨.struct [(0, 3), (1, 33)], 4, 48, .agg #[.int .i64 0, .int .i64 0, .int .i64 0, .slice none 0 0]⟩
  | 81 => some ⟨.struct [(0, 3), (1, 3), (2, 3)], 3, 24, .agg #[.int .i64 0, .int .i64 0, .int .i64 0]⟩
  | 82 => some ⟨.struct [(0, 3), (1, 3), (2, 3)], 3, 24, .agg #[.int .i64 0, .int .i64 0, .int .i64 0]⟩
  | 83 => some ⟨.func, 1, 8, .nilFunc⟩
  | 84 => some ⟨.func, 1, 8, .nilFunc⟩
  | 85 => some ⟨.func, 1, 8, .nilFunc⟩
  | 86 => some ⟨.func, 1, 8, .nilFunc⟩
  | 87 => some ⟨.struct [(0, 3), (1, 9), (2, 4), (3, 85), (4, 86)], 5, 48, .agg #[.int .i64 0, .string ⟨#[]⟩, .bool false, .nilFunc, .nilFunc]⟩
  | 88 => some ⟨.struct [(0, 3), (1, 9), (2, 4), (3, 85), (4, 86)], 5, 48, .agg #[.int .i64 0, .string ⟨#[]⟩, .bool false, .nilFunc, .nilFunc]⟩
  | 90 => some ⟨.func, 1, 8, .nilFunc⟩
  | 92 => some ⟨.func, 1, 8, .nilFunc⟩
  | 93 => some ⟨.func, 1, 8, .nilFunc⟩
  | 94 => some ⟨.func, 1, 8, .nilFunc⟩
  | 95 => some ⟨.func, 1, 8, .nilFunc⟩
  | 96 => some ⟨.slice 88, 1, 24, .slice none 0 0⟩
  | 97 => some ⟨.func, 1, 8, .nilFunc⟩
  | 98 => some ⟨.func, 1, 8, .nilFunc⟩
  | 99 => some ⟨.func, 1, 8, .nilFunc⟩
  | 100 => some ⟨.func, 1, 8, .nilFunc⟩
  | 101 => some ⟨.func, 1, 8, .nilFunc⟩
  | 102 => some ⟨.func, 1, 8, .nilFunc⟩
  | 103 => some ⟨.func, 1, 8, .nilFunc⟩
  | 104 => some ⟨.func, 1, 8, .nilFunc⟩
  | 105 => some ⟨.struct [(0, 4), (1, 33), (4, 3)], 5, 56, .agg #[.bool false, .int .i64 0, .int .i64 0, .slice none 0 0, .int .i64 0]⟩
  | 106 => some ⟨.struct [(0, 4), (1, 33), (4, 3)], 5, 56, .agg #[.bool false, .int .i64 0, .int .i64 0, .slice none 0 0, .int .i64 0]⟩
  | 107 => some ⟨.func, 1, 8, .nilFunc⟩
  | 108 => some ⟨.func, 1, 8, .nilFunc⟩
  | 109 => some ⟨.func, 1, 8, .nilFunc⟩
  | 110 => some ⟨.func, 1, 8, .nilFunc⟩
  | 111 => some ⟨.int .u64, 1, 8, .int .u64 0⟩
  | 112 => some ⟨.func, 1, 8, .nilFunc⟩
  | 113 => some ⟨.func, 1, 8, .nilFunc⟩
  | 114 => some ⟨.func, 1, 8, .nilFunc⟩
  | 115 => some ⟨.func, 1, 8, .nilFunc⟩
  | 116 => some ⟨.func, 1, 8, .nilFunc⟩
  | 117 => some ⟨.func, 1, 8, .nilFunc⟩
  | 119 => some ⟨.func, 1, 8, .nilFunc⟩
  | 120 => some ⟨.func, 1, 8, .nilFunc⟩
  | 121 => some ⟨.func, 1, 8, .nilFunc⟩
  | 122 => some ⟨.func, 1, 8, .nilFunc⟩
  | 123 => some ⟨.func, 1, 8, .nilFunc⟩
  | 124 => some ⟨.func, 1, 8, .nilFunc⟩
  | 125 => some ⟨.func, 1, 8, .nilFunc⟩
  | 126 => some ⟨.struct [(0, 3), (1, 33)], 4, 48, .agg #[.int .i64 0, .int .i64 0, .int .i64 0, .slice none 0 0]⟩
  | 127 => some ⟨.struct [(0, 3), (1, 33)], 4, 48, .agg #[.int .i64 0, .int .i64 0, .int .i64 0, .slice none 0 0]⟩
  | 128 => some ⟨.slice 127, 1, 24, .slice none 0 0⟩
  | 129 => some ⟨.func, 1, 8, .nilFunc⟩
  | 131 => some ⟨.func, 1, 8, .nilFunc⟩
  | 132 => some ⟨.int .u64, 1, 8, .int .u64 0⟩
  | 133 => some ⟨.func, 1, 8, .nilFunc⟩
  | 134 => some ⟨.func, 1, 8, .nilFunc⟩
  | 135 => some ⟨.pointer 138, 1, 8, .pointer none⟩
  | 136 => some ⟨.array 64 33, 192, 2560, .agg #[.int .i64 0, .int .i64 0, .slice none 0 0, .int .i64 0, .int .i64 0, .slice none 0 0, .int .i64 0, .int .i64 0, .slice none 0 0, .int .i64 0, .int .i64 0, .slice none 0 0, .int .i64 0, .int .i64 0, .slice none 0 0, .int .i64 0, .int .i64 0, .slice none 0 0, .int .i64 0, .int .i64 0, .slice none 0 0, .int .i64 0, .int .i64 0, .slice none 0 0, .int .i64 0, .int .i64 0, .slice none 0 0, .int .i64 0, .int .i64 0, .slice none 0 0, .int .i64 0, .int .i64 0, .slice none 0 0, .int .i64 0, .int .i64 0, .slice none 0 0, .int .i64 0, .int .i64 0, .slice none 0 0, .int .i64 0, .int .i64 0, .slice none 0 0, .int .i64 0, .int .i64 0, .slice none 0 0, .int .i64 0, .int .i64 0, .slice none 0 0, .int .i64 0, .int .i64 0, .slice none 0 0, .int .i64 0, .int .i64 0, .slice none 0 0, .int .i64 0, .int .i64 0, .slice none 0 0, .int .i64 0, .int .i64 0, .slice none 0 0, .int .i64 0, .int .i64 0, .slice none 0 0, .int .i64 0, .int .i64 0, .slice none 0 0, .int .i64 0, .int .i64 0, .slice none 0 0, .int .i64 0, .int .i64 0, .slice none 0 0, .int .i64 0, .int .i64 0, .slice none 0 0, .int .i64 0, .int .i64 0, .slice none 0 0, .int .i64 0, .int .i64 0, .slice none 0 0, .int .i64 0, .int .i64 0, .slice none 0 0, .int .i64 0, .int .i64 0, .slice none 0 0, .int .i64 0, .int .i64 0, .slice none 0 0, .int .i64 0, .int .i64 0, .slice none 0 0, .int .i64 0, .int .i64 0, .slice none 0 0, .int .i64 0, .int .i64 0, .slice none 0 0, .int .i64 0, .int .i64 0, .slice none 0 0, .int .i64 0, .int .i64 0, .slice none 0 0, .int .i64 0, .int .i64 0, .slice none 0 0, .int .i64 0, .int .i64 0, .slice none 0 0, .int .i64 0, .int .i64 0, .slice none 0 0, .int .i64 0, .int .i64 0, .slice none 0 0, .int .i64 0, .int .i64 0, .slice none 0 0, .int .i64 0, .int .i64 0, .slice none 0 0, .int .i64 0, .int .i64 0, .slice none 0 0, .int .i64 0, .int .i64 0, .slice none 0 0, .int .i64 0, .int .i64 0, .slice none 0 0, .int .i64 0, .int .i64 0, .slice none 0 0, .int .i64 0, .int .i64 0, .slice none 0 0, .int .i64 0, .int .i64 0, .slice none 0 0, .int .i64 0, .int .i64 0, .slice none 0 0, .int .i64 0, .int .i64 0, .slice none 0 0, .int .i64 0, .int .i64 0, .slice none 0 0, .int .i64 0, .int .i64 0, .slice none 0 0, .int .i64 0, .int .i64 0, .slice none 0 0, .int .i64 0, .int .i64 0, .slice none 0 0, .int .i64 0, .int .i64 0, .slice none 0 0, .int .i64 0, .int .i64 0, .slice none 0 0, .int .i64 0, .int .i64 0, .slice none 0 0, .int .i64 0, .int .i64 0, .slice none 0 0, .int .i64 0, .int .i64 0, .slice none 0 0, .int .i64 0, .int .i64 0, .slice none 0 0, .int .i64 0, .int .i64 0, .slice none 0 0, .int .i64 0, .int .i64 0, .slice none 0 0, .int .i64 0, .int .i64 0, .slice none 0 0, .int .i64 0, .int .i64 0, .slice none 0 0, .int .i64 0, .int .i64 0, .slice none 0 0]⟩
  | 137 => some ⟨.struct [(0, 111), (1, 136)], 193, 2568, .agg #[.int .u64 0, .int .i64 0, .int .i64 0, .slice none 0 0, .int .i64 0, .int .i64 0, .slice none 0 0, .int .i64 0, .int .i64 0, .slice none 0 0, .int .i64 0, .int .i64 0, .slice none 0 0, .int .i64 0, .int .i64 0, .slice none 0 0, .int .i64 0, .int .i64 0, .slice none 0 0, .int .i64 0, .int .i64 0, .slice none 0 0, .int .i64 0, .int .i64 0, .slice none 0 0, .int .i64 0, .int .i64 0, .slice none 0 0, .int .i64 0, .int .i64 0, .slice none 0 0, .int .i64 0, .int .i64 0, .slice none 0 0, .int .i64 0, .int .i64 0, .slice none 0 0, .int .i64 0, .int .i64 0, .slice none 0 0, .int .i64 0, .int .i64 0, .slice none 0 0, .int .i64 0, .int .i64 0, .slice none 0 0, .int .i64 0, .int .i64 0, .slice none 0 0, .int .i64 0, .int .i64 0, .slice none 0 0, .int .i64 0, .int .i64 0, .slice none 0 0, .int .i64 0, .int .i64 0, .slice none 0 0, .int .i64 0, .int .i64 0, .slice none 0 0, .int .i64 0, .int .i64 0, .slice none 0 0, .int .i64 0, .int .i64 0, .slice none 0 0, .int .i64 0, .int .i64 0, .slice none 0 0, .int .i64 0, .int .i64 0, .slice none 0 0, .int .i64 0, .int .i64 0, .slice none 0 0, .int .i64 0, .int .i64 0, .slice none 0 0, .int .i64 0, .int .i64 0, .slice none 0 0, .int .i64 0, .int .i64 0, .slice none 0 0, .int .i64 0, .int .i64 0, .slice none 0 0, .int .i64 0, .int .i64 0, .slice none 0 0, .int .i64 0, .int .i64 0, .slice none 0 0, .int .i64 0, .int .i64 0, .slice none 0 0, .int .i64 0, .int .i64 0, .slice none 0 0, .int .i64 0, .int .i64 0, .slice none 0 0, .int .i64 0, .int .i64 0, .slice none 0 0, .int .i64 0, .int .i64 0, .slice none 0 0, .int .i64 0, .int .i64 0, .slice none 0 0, .int .i64 0, .int .i64 0, .slice none 0 0, .int .i64 0, .int .i64 0, .slice none 0 0, .int .i64 0, .int .i64 0, .slice none 0 0, .int .i64 0, .int .i64 0, .slice none 0 0, .int .i64 0, .int .i64 0, .slice none 0 0, .int .i64 0, .int .i64 0, .slice none 0 0, .int .i64 0, .int .i64 0, .slice none 0 0, .int .i64 0, .int .i64 0, .slice none 0 0, .int .i64 0, .int .i64 0, .slice none 0 0, .int .i64 0, .int .i64 0, .slice none 0 0, .int .i64 0, .int .i64 0, .slice none 0 0, .int .i64 0, .int .i64 0, .slice none 0 0, .int .i64 0, .int .i64 0, .slice none 0 0, .int .i64 0, .int .i64 0, .slice none 0 0, .int .i64 0, .int .i64 0, .slice none 0 0, .int .i64 0, .int .i64 0, .slice none 0 0, .int .i64 0, .int .i64 0, .slice none 0 0, .int .i64 0, .int .i64 0, .slice none 0 0, .int .i64 0, .int .i64 0, .slice none 0 0, .int .i64 0, .int .i64 0, .slice none 0 0, .int .i64 0, .int .i64 0, .slice none 0 0, .int .i64 0, .int .i64 0, .slice none 0 0, .int .i64 0, .int .i64 0, .slice none 0 0, .int .i64 0, .int .i64 0, .slice none 0 0, .int .i64 0, .int .i64 0, .slice none 0 0, .int .i64 0, .int .i64 0, .slice none 0 0, .int .i64 0, .int .i64 0, .slice none 0 0]⟩
  | 138 => some ⟨.struct [(0, 111), (1, 136)], 193, 2568, .agg #[.int .u64 0, .int .i64 0, .int .i64 0, .slice none 0 0, .int .i64 0, .int .i64 0, .slice none 0 0, .int .i64 0, .int .i64 0, .slice none 0 0, .int .i64 0, .int .i64 0, .slice none 0 0, .int .i64 0, .int .i64 0, .slice none 0 0, .int .i64 0, .int .i64 0, .slice none 0 0, .int .i64 0, .int .i64 0, .slice none 0 0, .int .i64 0, .int .i64 0, .slice none 0 0, .int .i64 0, .int .i64 0, .slice none 0 0, .int .i64 0, .int .i64 0, .slice none 0 0, .int .i64 0, .int .i64 0, .slice none 0 0, .int .i64 0, .int .i64 0, .slice none 0 0, .int .i64 0, .int .i64 0, .slice none 0 0, .int .i64 0, .int .i64 0, .slice none 0 0, .int .i64 0, .int .i64 0, .slice none 0 0, .int .i64 0, .int .i64 0, .slice none 0 0, .int .i64 0, .int .i64 0, .slice none 0 0, .int .i64 0, .int .i64 0, .slice none 0 0, .int .i64 0, .int .i64 0, .slice none 0 0, .int .i64 0, .int .i64 0, .slice none 0 0, .int .i64 0, .int .i64 0, .slice none 0 0, .int .i64 0, .int .i64 0, .slice none 0 0, .int .i64 0, .int .i64 0, .slice none 0 0, .int .i64 0, .int .i64 0, .slice none 0 0, .int .i64 0, .int .i64 0, .slice none 0 0, .int .i64 0, .int .i64 0, .slice none 0 0, .int .i64 0, .int .i64 0, .slice none 0 0, .int .i64 0, .int .i64 0, .slice none 0 0, .int .i64 0, .int .i64 0, .slice none 0 0, .int .i64 0, .int .i64 0, .slice none 0 0, .int .i64 0, .int .i64 0, .slice none 0 0, .int .i64 0, .int .i64 0, .slice none 0 0, .int .i64 0, .int .i64 0, .slice none 0 0, .int .i64 0, .int .i64 0, .slice none 0 0, .int .i64 0, .int .i64 0, .slice none 0 0, .int .i64 0, .int .i64 0, .slice none 0 0, .int .i64 0, .int .i64 0, .slice none 0 0, .int .i64 0, .int .i64 0, .slice none 0 0, .int .i64 0, .int .i64 0, .slice none 0 0, .int .i64 0, .int .i64 0, .slice none 0 0, .int .i64 0, .int .i64 0, .slice none 0 0, .int .i64 0, .int .i64 0, .slice none 0 0, .int .i64 0, .int .i64 0, .slice none 0 0, .int .i64 0, .int .i64 0, .slice none 0 0, .int .i64 0, .int .i64 0, .slice none 0 0, .int .i64 0, .int .i64 0, .slice none 0 0, .int .i64 0, .int .i64 0, .slice none 0 0, .int .i64 0, .int .i64 0, .slice none 0 0, .int .i64 0, .int .i64 0, .slice none 0 0, .int .i64 0, .int .i64 0, .slice none 0 0, .int .i64 0, .int .i64 0, .slice none 0 0, .int .i64 0, .int .i64 0, .slice none 0 0, .int .i64 0, .int .i64 0, .slice none 0 0, .int .i64 0, .int .i64 0, .slice none 0 0, .int .i64 0, .int .i64 0, .slice none 0 0, .int .i64 0, .int .i64 0, .slice none 0 0, .int .i64 0, .int .i64 0, .slice none 0 0, .int .i64 0, .int .i64 0, .slice none 0 0, .int .i64 0, .int .i64 0, .slice none 0 0, .int .i64 0, .int .i64 0, .slice none 0 0, .int .i64 0, .int .i64 0, .slice none 0 0, .int .i64 0, .int .i64 0, .slice none 0 0, .int .i64 0, .int .i64 0, .slice none 0 0, .int .i64 0, .int .i64 0, .slice none 0 0]⟩
  | 139 => some ⟨.func, 1, 8, .nilFunc⟩
  | 140 => some ⟨.func, 1, 8, .nilFunc⟩
  | 141 => some ⟨.func, 1, 8, .nilFunc⟩
  | 142 => some ⟨.func, 1, 8, .nilFunc⟩
  | 143 => some ⟨.func, 1, 8, .nilFunc⟩
  | 144 => some ⟨.func, 1, 8, .nilFunc⟩
  | 145 => some ⟨.func, 1, 8, .nilFunc⟩
  | 146 => some ⟨.func, 1, 8, .nilFunc⟩
  | 147 => some ⟨.func, 1, 8, .nilFunc⟩
  | 148 => some ⟨.func, 1, 8, .nilFunc⟩
  | 149 => some ⟨.struct [(0, 17), (1, 17), (2, 17), (3, 9)], 4, 40, .agg #[.pointer none, .pointer none, .pointer none, .string ⟨#[]⟩]⟩
  | 150 => some ⟨.struct [(0, 17), (1, 17), (2, 17), (3, 9)], 4, 40, .agg #[.pointer none, .pointer none, .pointer none, .string ⟨#[]⟩]⟩
  | 151 => some ⟨.array 0 16, 0, 0, .agg #[]⟩
  | 152 => some ⟨.struct [(0, 151)], 0, 0, .agg #[]⟩
  | 153 => some ⟨.struct [(0, 151)], 0, 0, .agg #[]⟩
  | 154 => some ⟨.func, 1, 8, .nilFunc⟩
  | 155 => some ⟨.int .u32, 1, 4, .int .u32 0⟩
  | 156 => some ⟨.int .u8, 1, 1, .int .u8 0⟩
  | 157 => some ⟨.int .u8, 1, 1, .int .u8 0⟩
  | 158 => some ⟨.func, 1, 8, .nilFunc⟩
  | 159 => some ⟨.pointer 5, 1, 8, .pointer none⟩
  | 160 => some ⟨.int .i32, 1, 4, .int .i32 0⟩
  | 161 => some ⟨.int .i32, 1, 4, .int .i32 0⟩
  | 162 => some ⟨.struct [(0, 12), (1, 12), (2, 155), (3, 156), (4, 5), (5, 5), (6, 157), (7, 158), (8, 159), (9, 160), (10, 161)], 11, 48, .agg #[.int .u64 0, .int .u64 0, .int .u32 0, .int .u8 0, .int .u8 0, .int .u8 0, .int .u8 0, .nilFunc, .pointer none, .int .i32 0, .int .i32 0]⟩
  | 163 => some ⟨.struct [(0, 12), (1, 12), (2, 155), (3, 156), (4, 5), (5, 5), (6, 157), (7, 158), (8, 159), (9, 160), (10, 161)], 11, 48, .agg #[.int .u64 0, .int .u64 0, .int .u32 0, .int .u8 0, .int .u8 0, .int .u8 0, .int .u8 0, .nilFunc, .pointer none, .int .i32 0, .int .i32 0]⟩
  | 164 => some ⟨.func, 1, 8, .nilFunc⟩
  | 165 => some ⟨.unsafeP, 1, 8, .pointer none⟩
  | _ => none
@[go_sem] theorem tab_1 : tab 1 = some ⟨.func, 1, 8, .nilFunc⟩ := rfl
@[go_sem] theorem tab_2 : tab 2 = some ⟨.int .i64, 1, 8, .int .i64 0⟩ := rfl
@[go_sem] theorem tab_3 : tab 3 = some ⟨.int .i64, 1, 8, .int .i64 0⟩ := rfl
@[go_sem] theorem tab_4 : tab 4 = some ⟨.bool, 1, 1, .bool false⟩ := rfl
@[go_sem] theorem tab_5 : tab 5 = some ⟨.int .u8, 1, 1, .int .u8 0⟩ := rfl
@[go_sem] theorem tab_6 : tab 6 = some ⟨.int .u8, 1, 1, .int .u8 0⟩ := rfl
@[go_sem] theorem tab_7 : tab 7 = some ⟨.struct [(0, 2), (1, 3), (2, 4), (3, 6)], 4, 24, .agg #[.int .i64 0, .int .i64 0, .bool false, .int .u8 0]⟩ := rfl
@[go_sem] theorem tab_8 : tab 8 = some ⟨.struct [(0, 2), (1, 3), (2, 4), (3, 6)], 4, 24, .agg #[.int .i64 0, .int .i64 0, .bool false, .int .u8 0]⟩ := rfl
@[go_sem] theorem tab_9 : tab 9 = some ⟨.string, 1, 16, .string ⟨#[]⟩⟩ := rfl
@[go_sem] theorem tab_10 : tab 10 = some ⟨.string, 1, 16, .string ⟨#[]⟩⟩ := rfl
@[go_sem] theorem tab_11 : tab 11 = some ⟨.string, 1, 16, .string ⟨#[]⟩⟩ := rfl
@[go_sem] theorem tab_12 : tab 12 = some ⟨.int .u64, 1, 8, .int .u64 0⟩ := rfl
@[go_sem] theorem tab_13 : tab 13 = some ⟨.struct [(0, 9), (1, 12)], 2, 24, .agg #[.string ⟨#[]⟩, .int .u64 0]⟩ := rfl
@[go_sem] theorem tab_14 : tab 14 = some ⟨.struct [(0, 9), (1, 12)], 2, 24, .agg #[.string ⟨#[]⟩, .int .u64 0]⟩ := rfl
@[go_sem] theorem tab_15 : tab 15 = some ⟨.pointer 150, 1, 8, .pointer none⟩ := rfl
@[go_sem] theorem tab_16 : tab 16 = some ⟨.pointer 153, 1, 8, .pointer none⟩ := rfl
@[go_sem] theorem tab_17 : tab 17 = some ⟨.pointer 163, 1, 8, .pointer none⟩ := rfl
@[go_sem] theorem tab_18 : tab 18 = some ⟨.struct [(0, 17)], 1, 8, .agg #[.pointer none]⟩ := rfl
@[go_sem] theorem tab_19 : tab 19 = some ⟨.struct [(0, 17)], 1, 8, .agg #[.pointer none]⟩ := rfl
@[go_sem] theorem tab_20 : tab 20 = some ⟨.iface 0, 1, 16, .nilIface⟩ := rfl
@[go_sem] theorem tab_21 : tab 21 = some ⟨.int .i32, 1, 4, .int .i32 0⟩ := rfl
@[go_sem] theorem tab_22 : tab 22 = some ⟨.slice 35, 1, 24, .slice none 0 0⟩ := rfl
@[go_sem] theorem tab_23 : tab 23 = some ⟨.int .i64, 1, 8, .int .i64 0⟩ := rfl
@[go_sem] theorem tab_25 : tab 25 = some ⟨.func, 1, 8, .nilFunc⟩ := rfl
@[go_sem] theorem tab_26 : tab 26 = some ⟨.func, 1, 8, .nilFunc⟩ := rfl
@[go_sem] theorem tab_28 : tab 28 = some ⟨.func, 1, 8, .nilFunc⟩ := rfl
@[go_sem] theorem tab_29 : tab 29 = some ⟨.func, 1, 8, .nilFunc⟩ := rfl
@[go_sem] theorem tab_30 : tab 30 = some ⟨.func, 1, 8, .nilFunc⟩ := rfl
@[go_sem] theorem tab_31 : tab 31 = some ⟨.slice 33, 1, 24, .slice none 0 0⟩ := rfl
@[go_sem] theorem tab_32 : tab 32 = some ⟨.struct [(0, 3), (1, 3), (2, 31)], 3, 40, .agg #[.int .i64 0, .int .i64 0, .slice none 0 0]⟩ := rfl
@[go_sem] theorem tab_33 : tab 33 = some ⟨.struct [(0, 3), (1, 3), (2, 31)], 3, 40, .agg #[.int .i64 0, .int .i64 0, .slice none 0 0]⟩ := rfl
@[go_sem] theorem tab_34 : tab 34 = some ⟨.struct [(0, 33), (3, 3), (4, 3), (5, 3)], 6, 64, .agg #[.int .i64 0, .int .i64 0, .slice none 0 0, .int .i64 0, .int .i64 0, .int .i64 0]⟩ := rfl
@[go_sem] theorem tab_35 : tab 35 = some ⟨.struct [(0, 33), (3, 3), (4, 3), (5, 3)], 6, 64, .agg #[.int .i64 0, .int .i64 0, .slice none 0 0, .int .i64 0, .int .i64 0, .int .i64 0]⟩ := rfl
@[go_sem] theorem tab_36 : tab 36 = some ⟨.func, 1, 8, .nilFunc⟩ := rfl
@[go_sem] theorem tab_37 : tab 37 = some ⟨.func, 1, 8, .nilFunc⟩ := rfl
@[go_sem] theorem tab_38 : tab 38 = some ⟨.func, 1, 8, .nilFunc⟩ := rfl
@[go_sem] theorem tab_39 : tab 39 = some ⟨.slice 3, 1, 24, .slice none 0 0⟩ := rfl
@[go_sem] theorem tab_40 : tab 40 = some ⟨.func, 1, 8, .nilFunc⟩ := rfl
@[go_sem] theorem tab_41 : tab 41 = some ⟨.slice 4, 1, 24, .slice none 0 0⟩ := rfl
@[go_sem] theorem tab_42 : tab 42 = some ⟨.func, 1, 8, .nilFunc⟩ := rfl
@[go_sem] theorem tab_43 : tab 43 = some ⟨.func, 1, 8, .nilFunc⟩ := rfl
@[go_sem] theorem tab_44 : tab 44 = some ⟨.func, 1, 8, .nilFunc⟩ := rfl
@[go_sem] theorem tab_45 : tab 45 = some ⟨.func, 1, 8, .nilFunc⟩ := rfl
@[go_sem] theorem tab_47 : tab 47 = some ⟨.func, 1, 8, .nilFunc⟩ := rfl
@[go_sem] theorem tab_48 : tab 48 = some ⟨.func, 1, 8, .nilFunc⟩ := rfl
@[go_sem] theorem tab_50 : tab 50 = some ⟨.func, 1, 8, .nilFunc⟩ := rfl
@[go_sem] theorem tab_51 : tab 51 = some ⟨.func, 1, 8, .nilFunc⟩ := rfl
@[go_sem] theorem tab_52 : tab 52 = some ⟨.func, 1, 8, .nilFunc⟩ := rfl
@[go_sem] theorem tab_53 : tab 53 = some ⟨.func, 1, 8, .nilFunc⟩ := rfl
@[go_sem] theorem tab_54 : tab 54 = some ⟨.func, 1, 8, .nilFunc⟩ := rfl
@[go_sem] theorem tab_55 : tab 55 = some ⟨.func, 1, 8, .nilFunc⟩ := rfl
@[go_sem] theorem tab_56 : tab 56 = some ⟨.func, 1, 8, .nilFunc⟩ := rfl
@[go_sem] theorem tab_57 : tab 57 = some ⟨.func, 1, 8, .nilFunc⟩ := rfl
@[go_sem] theorem tab_58 : tab 58 = some ⟨.func, 1, 8, .nilFunc⟩ := rfl
@[go_sem] theorem tab_59 : tab 59 = some ⟨.func, 1, 8, .nilFunc⟩ := rfl
@[go_sem] theorem tab_60 : tab 60 = some ⟨.func, 1, 8, .nilFunc⟩ := rfl
@[go_sem] theorem tab_61 : tab 61 = some ⟨.struct [(0, 31), (1, 3)], 2, 32, .agg #[.slice none 0 0, .int .i64 0]⟩ := rfl
@[go_sem] theorem tab_62 : tab 62 = some ⟨.struct [(0, 31), (1, 3)], 2, 32, .agg #[.slice none 0 0, .int .i64 0]⟩ := rfl
@[go_sem] theorem tab_64 : tab 64 = some ⟨.func, 1, 8, .nilFunc⟩ := rfl
@[go_sem] theorem tab_65 : tab 65 = some ⟨.func, 1, 8, .nilFunc⟩ := rfl
@[go_sem] theorem tab_66 : tab 66 = some ⟨.func, 1, 8, .nilFunc⟩ := rfl
@[go_sem] theorem tab_67 : tab 67 = some ⟨.func, 1, 8, .nilFunc⟩ := rfl
@[go_sem] theorem tab_69 : tab 69 = some ⟨.func, 1, 8, .nilFunc⟩ := rfl
@[go_sem] theorem tab_70 : tab 70 = some ⟨.func, 1, 8, .nilFunc⟩ := rfl
@[go_sem] theorem tab_71 : tab 71 = some ⟨.func, 1, 8, .nilFunc⟩ := rfl
@[go_sem] theorem tab_72 : tab 72 = some ⟨.func, 1, 8, .nilFunc⟩ := rfl
@[go_sem] theorem tab_73 : tab 73 = some ⟨.iface 1, 1, 16, .nilIface⟩ := rfl
@[go_sem] theorem tab_74 : tab 74 = some ⟨.iface 1, 1, 16, .nilIface⟩ := rfl
@[go_sem] theorem tab_75 : tab 75 = some ⟨.func, 1, 8, .nilFunc⟩ := rfl
@[go_sem] theorem tab_76 : tab 76 = some ⟨.struct [(0, 33), (3, 33)], 6, 80, .agg #[.int .i64 0, .int .i64 0, .slice none 0 0, .int .i64 0, .int .i64 0, .slice none 0 0]⟩ := rfl
@[go_sem] theorem tab_77 : tab 77 = some ⟨.struct [(0, 33), (3, 33)], 6, 80, .agg #[.int .i64 0, .int .i64 0, .slice none 0 0, .int .i64 0, .int .i64 0, .slice none 0 0]⟩ := rfl
@[go_sem] theorem tab_78 : tab 78 = some ⟨.struct [(0, 33), (3, 33)], 6, 80, .agg #[.int .i64 0, .int .i64 0, .slice none 0 0, .int .i64 0, .int .i64 0, .slice none 0 0]⟩ := rfl
@[go_sem] theorem tab_79 : tab 79 = some ⟨.struct [(0, 3), (1, 33)], 4, 48, .agg #[.int .i64 0, .int .i64 0, .int .i64 0, .slice none 0 0]⟩ := rfl
@[go_sem] theorem tab_80 : tab 80 = some ⟨.struct [(0, 3), (1, 33)], 4, 48, .agg #[.int .i64 0, .int .i64 0, .int .i64 0, .slice none 0 0]⟩ := rfl
@[go_sem] theorem tab_81 : tab 81 = some ⟨.struct [(0, 3), (1, 3), (2, 3)], 3, 24, .agg #[.int .i64 0, .int .i64 0, .int .i64 0]⟩ := rfl
@[go_sem] theorem tab_82 : tab 82 = some ⟨.struct [(0, 3), (1, 3), (2, 3)], 3, 24, .agg #[.int .i64 0, .int .i64 0, .int .i64 0]⟩ := rfl
@[go_sem] theorem tab_83 : tab 83 = some ⟨.func, 1, 8, .nilFunc⟩ := rfl
@[go_sem] theorem tab_84 : tab 84 = some ⟨.func, 1, 8, .nilFunc⟩ := rfl
@[go_sem] theorem tab_85 : tab 85 = some ⟨.func, 1, 8, .nilFunc⟩ := rfl
@[go_sem] theorem tab_86 : tab 86 = some ⟨.func, 1, 8, .nilFunc⟩ := rfl
@[go_sem] theorem tab_87 : tab 87 = some ⟨.struct [(0, 3), (1, 9), (2, 4), (3, 85), (4, 86)], 5, 48, .agg #[.int .i64 0, .string ⟨#[]⟩, .bool false, .nilFunc, .nilFunc]⟩ := rfl
@[go_sem] theorem tab_88 : tab 88 = some ⟨.struct [(0, 3), (1, 9), (2, 4), (3, 85), (4, 86)], 5, 48, .agg #[.int .i64 0, .string ⟨#[]⟩, .bool false, .nilFunc, .nilFunc]⟩ := rfl
@[go_sem] theorem tab_90 : tab 90 = some ⟨.func, 1, 8, .nilFunc⟩ := rfl
@[go_sem] theorem tab_92 : tab 92 = some ⟨.func, 1, 8, .nilFunc⟩ := rfl
@[go_sem] theorem tab_93 : tab 93 = some ⟨.func, 1, 8, .nilFunc⟩ := rfl
@[go_sem] theorem tab_94 : tab 94 = some ⟨.func, 1, 8, .nilFunc⟩ := rfl
@[go_sem] theorem tab_95 : tab 95 = some ⟨.func, 1, 8, .nilFunc⟩ := rfl
@[go_sem] theorem tab_96 : tab 96 = some ⟨.slice 88, 1, 24, .slice none 0 0⟩ := rfl
@[go_sem] theorem tab_97 : tab 97 = some ⟨.func, 1, 8, .nilFunc⟩ := rfl
@[go_sem] theorem tab_98 : tab 98 = some ⟨.func, 1, 8, .nilFunc⟩ := rfl
@[go_sem] theorem tab_99 : tab 99 = some ⟨.func, 1, 8, .nilFunc⟩ := rfl
@[go_sem] theorem tab_100 : tab 100 = some ⟨.func, 1, 8, .nilFunc⟩ := rfl
@[go_sem] theorem tab_101 : tab 101 = some ⟨.func, 1, 8, .nilFunc⟩ := rfl
@[go_sem] theorem tab_102 : tab 102 = some ⟨.func, 1, 8, .nilFunc⟩ := rfl
@[go_sem] theorem tab_103 : tab 103 = some ⟨.func, 1, 8, .nilFunc⟩ := rfl
@[go_sem] theorem tab_104 : tab 104 = some ⟨.func, 1, 8, .nilFunc⟩ := rfl
@[go_sem] theorem tab_105 : tab 105 = some ⟨.struct [(0, 4), (1, 33), (4, 3)], 5, 56, .agg #[.bool false, .int .i64 0, .int .i64 0, .slice none 0 0, .int .i64 0]⟩ := rfl
@[go_sem] theorem tab_106 : tab 106 = some ⟨.struct [(0, 4), (1, 33), (4, 3)], 5, 56, .agg #[.bool false, .int .i64 0, .int .i64 0, .slice none 0 0, .int .i64 0]⟩ := rfl
@[go_sem] theorem tab_107 : tab 107 = some ⟨.func, 1, 8, .nilFunc⟩ := rfl
@[go_sem] theorem tab_108 : tab 108 = some ⟨.func, 1, 8, .nilFunc⟩ := rfl
@[go_sem] theorem tab_109 : tab 109 = some ⟨.func, 1, 8, .nilFunc⟩ := rfl
@[go_sem] theorem tab_110 : tab 110 = some ⟨.func, 1, 8, .nilFunc⟩ := rfl
@[go_sem] theorem tab_111 : tab 111 = some ⟨.int .u64, 1, 8, .int .u64 0⟩ := rfl
@[go_sem] theorem tab_112 : tab 112 = some ⟨.func, 1, 8, .nilFunc⟩ := rfl
@[go_sem] theorem tab_113 : tab 113 = some ⟨.func, 1, 8, .nilFunc⟩ := rfl
@[go_sem] theorem tab_114 : tab 114 = some ⟨.func, 1, 8, .nilFunc⟩ := rfl
@[go_sem] theorem tab_115 : tab 115 = some ⟨.func, 1, 8, .nilFunc⟩ := rfl
@[go_sem] theorem tab_116 : tab 116 = some ⟨.func, 1, 8, .nilFunc⟩ := rfl
@[go_sem] theorem tab_117 : tab 117 = some ⟨.func, 1, 8, .nilFunc⟩ := rfl
@[go_sem] theorem tab_119 : tab 119 = some ⟨.func, 1, 8, .nilFunc⟩ := rfl
@[go_sem] theorem tab_120 : tab 120 = some ⟨.func, 1, 8, .nilFunc⟩ := rfl
@[go_sem] theorem tab_121 : tab 121 = some ⟨.func, 1, 8, .nilFunc⟩ := rfl
@[go_sem] theorem tab_122 : tab 122 = some ⟨.func, 1, 8, .nilFunc⟩ := rfl
@[go_sem] theorem tab_123 : tab 123 = some ⟨.func, 1, 8, .nilFunc⟩ := rfl
@[go_sem] theorem tab_124 : tab 124 = some ⟨.func, 1, 8, .nilFunc⟩ := rfl
@[go_sem] theorem tab_125 : tab 125 = some ⟨.func, 1, 8, .nilFunc⟩ := rfl
@[go_sem] theorem tab_126 : tab 126 = some ⟨.struct [(0, 3), (1, 33)], 4, 48, .agg #[.int .i64 0, .int .i64 0, .int .i64 0, .slice none 0 0]⟩ := rfl
@[go_sem] theorem tab_127 : tab 127 = some ⟨.struct [(0, 3), (1, 33)], 4, 48, .agg #[.int .i64 0, .int .i64 0, .int .i64 0, .slice none 0 0]⟩ := rfl
@[go_sem] theorem tab_128 : tab 128 = some ⟨.slice 127, 1, 24, .slice none 0 0⟩ := rfl
@[go_sem] theorem tab_129 : tab 129 = some ⟨.func, 1, 8, .nilFunc⟩ := rfl
@[go_sem] theorem tab_131 : tab 131 = some ⟨.func, 1, 8, .nilFunc⟩ := rfl
@[go_sem] theorem tab_132 : tab 132 = some ⟨.int .u64, 1, 8, .int .u64 0⟩ := rfl
@[go_sem] theorem tab_133 : tab 133 = some ⟨.func, 1, 8, .nilFunc⟩ := rfl
@[go_sem] theorem tab_134 : tab 134 = some ⟨.func, 1, 8, .nilFunc⟩ := rfl
@[go_sem] theorem tab_135 : tab 135 = some ⟨.pointer 138, 1, 8, .pointer none⟩ := rfl
@[go_sem] theorem tab_136 : tab 136 = some ⟨.array 64 33, 192, 2560, .agg #[.int .i64 0, .int .i64 0, .slice none 0 0, .int .i64 0, .int .i64 0, .slice none 0 0, .int .i64 0, .int .i64 0, .slice none 0 0, .int .i64 0, .int .i64 0, .slice none 0 0, .int .i64 0, .int .i64 0, .slice none 0 0, .int .i64 0, .int .i64 0, .slice none 0 0, .int .i64 0, .int .i64 0, .slice none 0 0, .int .i64 0, .int .i64 0, .slice none 0 0, .int .i64 0, .int .i64 0, .slice none 0 0, .int .i64 0, .int .i64 0, .slice none 0 0, .int .i64 0, .int .i64 0, .slice none 0 0, .int .i64 0, .int .i64 0, .slice none 0 0, .int .i64 0, .int .i64 0, .slice none 0 0, .int .i64 0, .int .i64 0, .slice none 0 0, .int .i64 0, .int .i64 0, .slice none 0 0, .int .i64 0, .int .i64 0, .slice none 0 0, .int .i64 0, .int .i64 0, .slice none 0 0, .int .i64 0, .int .i64 0, .slice none 0 0, .int .i64 0, .int .i64 0, .slice none 0 0, .int .i64 0, .int .i64 0, .slice none 0 0, .int .i64 0, .int .i64 0, .slice none 0 0, .int .i64 0, .int .i64 0, .slice none 0 0, .int .i64 0, .int .i64 0, .slice none 0 0, .int .i64 0, .int .i64 0, .slice none 0 0, .int .i64 0, .int .i64 0, .slice none 0 0, .int .i64 0, .int .i64 0, .slice none 0 0, .int .i64 0, .int .i64 0, .slice none 0 0, .int .i64 0, .int .i64 0, .slice none 0 0, .int .i64 0, .int .i64 0, .slice none 0 0, .int .i64 0, .int .i64 0, .slice none 0 0, .int .i64 0, .int .i64 0, .slice none 0 0, .int .i64 0, .int .i64 0, .slice none 0 0, .int .i64 0, .int .i64 0, .slice none 0 0, .int .i64 0, .int .i64 0, .slice none 0 0, .int .i64 0, .int .i64 0, .slice none 0 0, .int .i64 0, .int .i64 0, .slice none 0 0, .int .i64 0, .int .i64 0, .slice none 0 0, .int .i64 0, .int .i64 0, .slice none 0 0, .int .i64 0, .int .i64 0, .slice none 0 0, .int .i64 0, .int .i64 0, .slice none 0 0, .int .i64 0, .int .i64 0, .slice none 0 0, .int .i64 0, .int .i64 0, .slice none 0 0, .int .i64 0, .int .i64 0, .slice none 0 0, .int .i64 0, .int .i64 0, .slice none 0 0, .int .i64 0, .int .i64 0, .slice none 0 0, .int .i64 0, .int .i64 0, .slice none 0 0, .int .i64 0, .int .i64 0, .slice none 0 0, .int .i64 0, .int .i64 0, .slice none 0 0, .int .i64 0, .int .i64 0, .slice none 0 0, .int .i64 0, .int .i64 0, .slice none 0 0, .int .i64 0, .int .i64 0, .slice none 0 0, .int .i64 0, .int .i64 0, .slice none 0 0, .int .i64 0, .int .i64 0, .slice none 0 0, .int .i64 0, .int .i64 0, .slice none 0 0, .int .i64 0, .int .i64 0, .slice none 0 0, .int .i64 0, .int .i64 0, .slice none 0 0, .int .i64 0, .int .i64 0, .slice none 0 0, .int .i64 0, .int .i64 0, .slice none 0 0, .int .i64 0, .int .i64 0, .slice none 0 0, .int .i64 0, .int .i64 0, .slice none 0 0, .int .i64 0, .int .i64 0, .slice none 0 0, .int .i64 0, .int .i64 0, .slice none 0 0, .int .i64 0, .int .i64 0, .slice none 0 0, .int .i64 0, .int .i64 0, .slice none 0 0]⟩ := rfl
@[go_sem] theorem tab_137 : tab 137 = some ⟨.struct [(0, 111), (1, 136)], 193, 2568, .agg #[.int .u64 0, .int .i64 0, .int .i64 0, .slice none 0 0, .int .i64 0, .int .i64 0, .slice none 0 0, .int .i64 0, .int .i64 0, .slice none 0 0, .int .i64 0, .int .i64 0, .slice none 0 0, .int .i64 0, .int .i64 0, .slice none 0 0, .int .i64 0, .int .i64 0, .slice none 0 0, .int .i64 0, .int .i64 0, .slice none 0 0, .int .i64 0, .int .i64 0, .slice none 0 0, .int .i64 0, .int .i64 0, .slice none 0 0, .int .i64 0, .int .i64 0, .slice none 0 0, .int .i64 0, .int .i64 0, .slice none 0 0, .int .i64 0, .int .i64 0, .slice none 0 0, .int .i64 0, .int .i64 0, .slice none 0 0, .int .i64 0, .int .i64 0, .slice none 0 0, .int .i64 0, .int .i64 0, .slice none 0 0, .int .i64 0, .int .i64 0, .slice none 0 0, .int .i64 0, .int .i64 0, .slice none 0 0, .int .i64 0, .int .i64 0, .slice none 0 0, .int .i64 0, .int .i64 0, .slice none 0 0, .int .i64 0, .int .i64 0, .slice none 0 0, .int .i64 0, .int .i64 0, .slice none 0 0, .int .i64 0, .int .i64 0, .slice none 0 0, .int .i64 0, .int .i64 0, .slice none 0 0, .int .i64 0, .int .i64 0, .slice none 0 0, .int .i64 0, .int .i64 0, .slice none 0 0, .int .i64 0, .int .i64 0, .slice none 0 0, .int .i64 0, .int .i64 0, .slice none 0 0, .int .i64 0, .int .i64 0, .slice none 0 0, .int .i64 0, .int .i64 0, .slice none 0 0, .int .i64 0, .int .i64 0, .slice none 0 0, .int .i64 0, .int .i64 0, .slice none 0 0, .int .i64 0, .int .i64 0, .slice none 0 0, .int .i64 0, .int .i64 0, .slice none 0 0, .int .i64 0, .int .i64 0, .slice none 0 0, .int .i64 0, .int .i64 0, .slice none 0 0, .int .i64 0, .int .i64 0, .slice none 0 0, .int .i64 0, .int .i64 0, .slice none 0 0, .int .i64 0, .int .i64 0, .slice none 0 0, .int .i64 0, .int .i64 0, .slice none 0 0, .int .i64 0, .int .i64 0, .slice none 0 0, .int .i64 0, .int .i64 0, .slice none 0 0, .int .i64 0, .int .i64 0, .slice none 0 0, .int .i64 0, .int .i64 0, .slice none 0 0, .int .i64 0, .int .i64 0, .slice none 0 0, .int .i64 0, .int .i64 0, .slice none 0 0, .int .i64 0, .int .i64 0, .slice none 0 0, .int .i64 0, .int .i64 0, .slice none 0 0, .int .i64 0, .int .i64 0, .slice none 0 0, .int .i64 0, .int .i64 0, .slice none 0 0, .int .i64 0, .int .i64 0, .slice none 0 0, .int .i64 0, .int .i64 0, .slice none 0 0, .int .i64 0, .int .i64 0, .slice none 0 0, .int .i64 0, .int .i64 0, .slice none 0 0, .int .i64 0, .int .i64 0, .slice none 0 0, .int .i64 0, .int .i64 0, .slice none 0 0, .int .i64 0, .int .i64 0, .slice none 0 0, .int .i64 0, .int .i64 0, .slice none 0 0, .int .i64 0, .int .i64 0, .slice none 0 0, .int .i64 0, .int .i64 0, .slice none 0 0, .int .i64 0, .int .i64 0, .slice none 0 0, .int .i64 0, .int .i64 0, .slice none 0 0, .int .i64 0, .int .i64 0, .slice none 0 0, .int .i64 0, .int .i64 0, .slice none 0 0, .int .i64 0, .int .i64 0, .slice none 0 0]⟩ := rfl
@[go_sem] theorem tab_138 : tab 138 = some ⟨.struct [(0, 111), (1, 136)], 193, 2568, .agg #[.int .u64 0, .int .i64 0, .int .i64 0, .slice none 0 0, .int .i64 0, .int .i64 0, .slice none 0 0, .int .i64 0, .int .i64 0, .slice none 0 0, .int .i64 0, .int .i64 0, .slice none 0 0, .int .i64 0, .int .i64 0, .slice none 0 0, .int .i64 0, .int .i64 0, .slice none 0 0, .int .i64 0, .int .i64 0, .slice none 0 0, .int .i64 0, .int .i64 0, .slice none 0 0, .int .i64 0, .int .i64 0, .slice none 0 0, .int .i64 0, .int .i64 0, .slice none 0 0, .int .i64 0, .int .i64 0, .slice none 0 0, .int .i64 0, .int .i64 0, .slice none 0 0, .int .i64 0, .int .i64 0, .slice none 0 0, .int .i64 0, .int .i64 0, .slice none 0 0, .int .i64 0, .int .i64 0, .slice none 0 0, .int .i64 0, .int .i64 0, .slice none 0 0, .int .i64 0, .int .i64 0, .slice none 0 0, .int .i64 0, .int .i64 0, .slice none 0 0, .int .i64 0, .int .i64 0, .slice none 0 0, .int .i64 0, .int .i64 0, .slice none 0 0, .int .i64 0, .int .i64 0, .slice none 0 0, .int .i64 0, .int .i64 0, .slice none 0 0, .int .i64 0, .int .i64 0, .slice none 0 0, .int .i64 0, .int .i64 0, .slice none 0 0, .int .i64 0, .int .i64 0, .slice none 0 0, .int .i64 0, .int .i64 0, .slice none 0 0, .int .i64 0, .int .i64 0, .slice none 0 0, .int .i64 0, .int .i64 0, .slice none 0 0, .int .i64 0, .int .i64 0, .slice none 0 0, .int .i64 0, .int .i64 0, .slice none 0 0, .int .i64 0, .int .i64 0, .slice none 0 0, .int .i64 0, .int .i64 0, .slice none 0 0, .int .i64 0, .int .i64 0, .slice none 0 0, .int .i64 0, .int .i64 0, .slice none 0 0, .int .i64 0, .int .i64 0, .slice none 0 0, .int .i64 0, .int .i64 0, .slice none 0 0, .int .i64 0, .int .i64 0, .slice none 0 0, .int .i64 0, .int .i64 0, .slice none 0 0, .int .i64 0, .int .i64 0, .slice none 0 0, .int .i64 0, .int .i64 0, .slice none 0 0, .int .i64 0, .int .i64 0, .slice none 0 0, .int .i64 0, .int .i64 0, .slice none 0 0, .int .i64 0, .int .i64 0, .slice none 0 0, .int .i64 0, .int .i64 0, .slice none 0 0, .int .i64 0, .int .i64 0, .slice none 0 0, .int .i64 0, .int .i64 0, .slice none 0 0, .int .i64 0, .int .i64 0, .slice none 0 0, .int .i64 0, .int .i64 0, .slice none 0 0, .int .i64 0, .int .i64 0, .slice none 0 0, .int .i64 0, .int .i64 0, .slice none 0 0, .int .i64 0, .int .i64 0, .slice none 0 0, .int .i64 0, .int .i64 0, .slice none 0 0, .int .i64 0, .int .i64 0, .slice none 0 0, .int .i64 0, .int .i64 0, .slice none 0 0, .int .i64 0, .int .i64 0, .slice none 0 0, .int .i64 0, .int .i64 0, .slice none 0 0, .int .i64 0, .int .i64 0, .slice none 0 0, .int .i64 0, .int .i64 0, .slice none 0 0, .int .i64 0, .int .i64 0, .slice none 0 0, .int .i64 0, .int .i64 0, .slice none 0 0, .int .i64 0, .int .i64 0, .slice none 0 0, .int .i64 0, .int .i64 0, .slice none 0 0, .int .i64 0, .int .i64 0, .slice none 0 0, .int .i64 0, .int .i64 0, .slice none 0 0]⟩ := rfl
@[go_sem] theorem tab_139 : tab 139 = some ⟨.func, 1, 8, .nilFunc⟩ := rfl
@[go_sem] theorem tab_140 : tab 140 = some ⟨.func, 1, 8, .nilFunc⟩ := rfl
@[go_sem] theorem tab_141 : tab 141 = some ⟨.func, 1, 8, .nilFunc⟩ := rfl
@[go_sem] theorem tab_142 : tab 142 = some ⟨.func, 1, 8, .nilFunc⟩ := rfl
@[go_sem] theorem tab_143 : tab 143 = some ⟨.func, 1, 8, .nilFunc⟩ := rfl
@[go_sem] theorem tab_144 : tab 144 = some ⟨.func, 1, 8, .nilFunc⟩ := rfl
@[go_sem] theorem tab_145 : tab 145 = some ⟨.func, 1, 8, .nilFunc⟩ := rfl
@[go_sem] theorem tab_146 : tab 146 = some ⟨.func, 1, 8, .nilFunc⟩ := rfl
@[go_sem] theorem tab_147 : tab 147 = some ⟨.func, 1, 8, .nilFunc⟩ := rfl
@[go_sem] theorem tab_148 : tab 148 = some ⟨.func, 1, 8, .nilFunc⟩ := rfl
@[go_sem] theorem tab_149 : tab 149 = some ⟨.struct [(0, 17), (1, 17), (2, 17), (3, 9)], 4, 40, .agg #[.pointer none, .pointer none, .pointer none, .string ⟨#[]⟩]⟩ := rfl
@[go_sem] theorem tab_150 : tab 150 = some ⟨.struct [(0, 17), (1, 17), (2, 17), (3, 9)], 4, 40, .agg #[.pointer none, .pointer none, .pointer none, .string ⟨#[]⟩]⟩ := rfl
@[go_sem] theorem tab_151 : tab 151 = some ⟨.array 0 16, 0, 0, .agg #[]⟩ := rfl
@[go_sem] theorem tab_152 : tab 152 = some ⟨.struct [(0, 151)], 0, 0, .agg #[]⟩ := rfl
@[go_sem] theorem tab_153 : tab 153 = some ⟨.struct [(0, 151)], 0, 0, .agg #[]⟩ := rfl
@[go_sem] theorem tab_154 : tab 154 = some ⟨.func, 1, 8, .nilFunc⟩ := rfl
@[go_sem] theorem tab_155 : tab 155 = some ⟨.int .u32, 1, 4, .int .u32 0⟩ := rfl
@[go_sem] theorem tab_156 : tab 156 = some ⟨.int .u8, 1, 1, .int .u8 0⟩ := rfl
@[go_sem] theorem tab_157 : tab 157 = some ⟨.int .u8, 1, 1, .int .u8 0⟩ := rfl
@[go_sem] theorem tab_158 : tab 158 = some ⟨.func, 1, 8, .nilFunc⟩ := rfl
@[go_sem] theorem tab_159 : tab 159 = some ⟨.pointer 5, 1, 8, .pointer none⟩ := rfl
@[go_sem] theorem tab_160 : tab 160 = some ⟨.int .i32, 1, 4, .int .i32 0⟩ := rfl
@[go_sem] theorem tab_161 : tab 161 = some ⟨.int .i32, 1, 4, .int .i32 0⟩ := rfl
@[go_sem] theorem tab_162 : tab 162 = some ⟨.struct [(0, 12), (1, 12), (2, 155), (3, 156), (4, 5), (5, 5), (6, 157), (7, 158), (8, 159), (9, 160), (10, 161)], 11, 48, .agg #[.int .u64 0, .int .u64 0, .int .u32 0, .int .u8 0, .int .u8 0, .int .u8 0, .int .u8 0, .nilFunc, .pointer none, .int .i32 0, .int .i32 0]⟩ := rfl
@[go_sem] theorem tab_163 : tab 163 = some ⟨.struct [(0, 12), (1, 12), (2, 155), (3, 156), (4, 5), (5, 5), (6, 157), (7, 158), (8, 159), (9, 160), (10, 161)], 11, 48, .agg #[.int .u64 0, .int .u64 0, .int .u32 0, .int .u8 0, .int .u8 0, .int .u8 0, .int .u8 0, .nilFunc, .pointer none, .int .i32 0, .int .i32 0]⟩ := rfl
@[go_sem] theorem tab_164 : tab 164 = some ⟨.func, 1, 8, .nilFunc⟩ := rfl
@[go_sem] theorem tab_165 : tab 165 = some ⟨.unsafeP, 1, 8, .pointer none⟩ := rfl

set_option maxRecDepth 100000 in
theorem tabOk : TabOk Tryz.prog tab := by
  intro t ti e
  unfold tab at e
  split at e
  · cases e; exact ⟨_, _, Tryz.type1, Tryz.underlying1, rfl, rfl, rfl, rfl⟩
  · cases e; exact ⟨_, _, Tryz.type2, Tryz.underlying2, rfl, rfl, rfl, rfl⟩
  · cases e; exact ⟨_, _, Tryz.type3, Tryz.underlying3, rfl, rfl, rfl, rfl⟩
  · cases e; exact ⟨_, _, Tryz.type4, Tryz.underlying4, rfl, rfl, rfl, rfl⟩
  · cases e; exact ⟨_, _, Tryz.type5, Tryz.underlying5, rfl, rfl, rfl, rfl⟩
  · cases e; exact ⟨_, _, Tryz.type6, Tryz.underlying6, rfl, rfl, rfl, rfl⟩
  · cases e; exact ⟨_, _, Tryz.type7, Tryz.underlying7, rfl, rfl, rfl, rfl⟩
  · cases e; exact ⟨_, _, Tryz.type8, Tryz.underlying8, rfl, rfl, rfl, rfl⟩
  · cases e; exact ⟨_, _, Tryz.type9, Tryz.underlying9, rfl, rfl, rfl, rfl⟩
  · cases e; exact ⟨_, _, Tryz.type10, Tryz.underlying10, rfl, rfl, rfl, rfl⟩
  · cases e; exact ⟨_, _, Tryz.type11, Tryz.underlying11, rfl, rfl, rfl, rfl⟩
  · cases e; exact ⟨_, _, Tryz.type12, Tryz.underlying12, rfl, rfl, rfl, rfl⟩
  · cases e; exact ⟨_, _, Tryz.type13, Tryz.underlying13, rfl, rfl, rfl, rfl⟩
  · cases e; exact ⟨_, _, Tryz.type14, Tryz.underlying14, rfl, rfl, rfl, rfl⟩
  · cases e; exact ⟨_, _, Tryz.type15, Tryz.underlying15, rfl, rfl, rfl, rfl⟩
  · cases e; exact ⟨_, _, Tryz.type16, Tryz.underlying16, rfl, rfl, rfl, rfl⟩
  · cases e; exact ⟨_, _, Tryz.type17, Tryz.underlying17, rfl, rfl, rfl, rfl⟩
  · cases e; exact ⟨_, _, Tryz.type18, Tryz.underlying18, rfl, rfl, rfl, rfl⟩
  · cases e; exact ⟨_, _, Tryz.type19, Tryz.underlying19, rfl, rfl, rfl, rfl⟩
  · cases e; exact ⟨_, _, Tryz.type20, Tryz.underlying20, rfl, rfl, rfl, rfl⟩
  · cases e; exact ⟨_, _, Tryz.type21, Tryz.underlying21, rfl, rfl, rfl, rfl⟩
  · cases e; exact ⟨_, _, Tryz.type22, Tryz.underlying22, rfl, rfl, rfl, rfl⟩
  · cases e; exact ⟨_, _, Tryz.type23, Tryz.underlying23, rfl, rfl, rfl, rfl⟩
  · cases e; exact ⟨_, _, Tryz.type25, Tryz.underlying25, rfl, rfl, rfl, rfl⟩
  · cases e; exact ⟨_, _, Tryz.type26, Tryz.underlying26, rfl, rfl, rfl, rfl⟩
  · cases e; exact ⟨_, _, Tryz.type28, Tryz.underlying28, rfl, rfl, rfl, rfl⟩
  · cases e; exact ⟨_, _, Tryz.type29, Tryz.underlying29, rfl, rfl, rfl, rfl⟩
  · cases e; exact ⟨_, _, Tryz.type30, Tryz.underlying30, rfl, rfl, rfl, rfl⟩
  · cases e; exact ⟨_, _, Tryz.type31, Tryz.underlying31, rfl, rfl, rfl, rfl⟩
  · cases e; exact ⟨_, _, Tryz.type32, Tryz.underlying32, rfl, rfl, rfl, rfl⟩
  · cases e; exact ⟨_, _, Tryz.type33, Tryz.underlying33, rfl, rfl, rfl, rfl⟩
  · cases e; exact ⟨_, _, Tryz.type34, Tryz.underlying34, rfl, rfl, rfl, rfl⟩
  · cases e; exact ⟨_, _, Tryz.type35, Tryz.underlying35, rfl, rfl, rfl, rfl⟩
  · cases e; exact ⟨_, _, Tryz.type36, Tryz.underlying36, rfl, rfl, rfl, rfl⟩
  · cases e; exact ⟨_, _, Tryz.type37, Tryz.underlying37, rfl, rfl, rfl, rfl⟩
  · cases e; exact ⟨_, _, Tryz.type38, Tryz.underlying38, rfl, rfl, rfl, rfl⟩
  · cases e; exact ⟨_, _, Tryz.type39, Tryz.underlying39, rfl, rfl, rfl, rfl⟩
  · cases e; exact ⟨_, _, Tryz.type40, Tryz.underlying40, rfl, rfl, rfl, rfl⟩
  · cases e; exact ⟨_, _, Tryz.type41, Tryz.underlying41, rfl, rfl, rfl, rfl⟩
  · cases e; exact ⟨_, _, Tryz.type42, Tryz.underlying42, rfl, rfl, rfl, rfl⟩
  · cases e; exact ⟨_, _, Tryz.type43, Tryz.underlying43, rfl, rfl, rfl, rfl⟩
  · cases e; exact ⟨_, _, Tryz.type44, Tryz.underlying44, rfl, rfl, rfl, rfl⟩
  · cases e; exact ⟨_, _, Tryz.type45, Tryz.underlying45, rfl, rfl, rfl, rfl⟩
  · cases e; exact ⟨_, _, Tryz.type47, Tryz.underlying47, rfl, rfl, rfl, rfl⟩
  · cases e; exact ⟨_, _, Tryz.type48, Tryz.underlying48, rfl, rfl, rfl, rfl⟩
  · cases e; exact ⟨_, _, Tryz.type50, Tryz.underlying50, rfl, rfl, rfl, rfl⟩
  · cases e; exact ⟨_, _, Tryz.type51, Tryz.underlying51, rfl, rfl, rfl, rfl⟩
  · cases e; exact ⟨_, _, Tryz.type52, Tryz.underlying52, rfl, rfl, rfl, rfl⟩
  · cases e; exact ⟨_, _, Tryz.type53, Tryz.underlying53, rfl, rfl, rfl, rfl⟩
  · cases e; exact ⟨_, _, Tryz.type54, Tryz.underlying54, rfl, rfl, rfl, rfl⟩
  · cases e; exact ⟨_, _, Tryz.type55, Tryz.underlying55, rfl, rfl, rfl, rfl⟩
  · cases e; exact ⟨_, _, Tryz.type56, Tryz.underlying56, rfl, rfl, rfl, rfl⟩
  · cases e; exact ⟨_, _, Tryz.type57, Tryz.underlying57, rfl, rfl, rfl, rfl⟩
  · cases e; exact ⟨_, _, Tryz.type58, Tryz.underlying58, rfl, rfl, rfl, rfl⟩
  · cases e; exact ⟨_, _, Tryz.type59, Tryz.underlying59, rfl, rfl, rfl, rfl⟩
  · cases e; exact ⟨_, _, Tryz.type60, Tryz.underlying60, rfl, rfl, rfl, rfl⟩
  · cases e; exact ⟨_, _, Tryz.type61, Tryz.underlying61, rfl, rfl, rfl, rfl⟩
  · cases e; exact ⟨_, _, Tryz.type62, Tryz.underlying62, rfl, rfl, rfl, rfl⟩
  · cases e; exact ⟨_, _, Tryz.type64, Tryz.underlying64, rfl, rfl, rfl, rfl⟩
  · cases e; exact ⟨_, _, Tryz.type65, Tryz.underlying65, rfl, rfl, rfl, rfl⟩
  · cases e; exact ⟨_, _, Tryz.type66, Tryz.underlying66, rfl, rfl, rfl, rfl⟩
  · cases e; exact ⟨_, _, Tryz.type67, Tryz.underlying67, rfl, rfl, rfl, rfl⟩
  · cases e; exact ⟨_, _, Tryz.type69, Tryz.underlying69, rfl, rfl, rfl, rfl⟩
  · cases e; exact ⟨_, _, Tryz.type70, Tryz.underlying70, rfl, rfl, rfl, rfl⟩
  · cases e; exact ⟨_, _, Tryz.type71, Tryz.underlying71, rfl, rfl, rfl, rfl⟩
  · cases e; exact ⟨_, _, Tryz.type72, Tryz.underlying72, rfl, rfl, rfl, rfl⟩
  · cases e; exact ⟨_, _, Tryz.type73, Tryz.underlying73, rfl, rfl, rfl, rfl⟩
  · cases e; exact ⟨_, _, Tryz.type74, Tryz.underlying74, rfl, rfl, rfl, rfl⟩
  · cases e; exact ⟨_, _, Tryz.type75, Tryz.underlying75, rfl, rfl, rfl, rfl⟩
  · cases e; exact ⟨_, _, Tryz.type76, Tryz.underlying76, rfl, rfl, rfl, rfl⟩
  · cases e; exact ⟨_, _, Tryz.type77, Tryz.underlying77, rfl, rfl, rfl, rfl⟩
  · cases e; exact ⟨_, _, Tryz.type78, Tryz.underlying78, rfl, rfl, rfl, rfl⟩
  · cases e; exact ⟨_, _, Tryz.type79, Tryz.underlying79, rfl, rfl, rfl, rfl⟩
  · cases e; exact ⟨_, _, Tryz.type80, Tryz.underlying80, rfl, rfl, rfl, rfl⟩
  · cases e; exact ⟨_, _, Tryz.type81, Tryz.underlying81, rfl, rfl, rfl, rfl⟩
  · cases e; exact ⟨_, _, Tryz.type82, Tryz.underlying82, rfl, rfl, rfl, rfl⟩
  · cases e; exact ⟨_, _, Tryz.type83, Tryz.underlying83, rfl, rfl, rfl, rfl⟩
  · cases e; exact ⟨_, _, Tryz.type84, Tryz.underlying84, rfl, rfl, rfl, rfl⟩
  · cases e; exact ⟨_, _, Tryz.type85, Tryz.underlying85, rfl, rfl, rfl, rfl⟩
  · cases e; exact ⟨_, _, Tryz.type86, Tryz.underlying86, rfl, rfl, rfl, rfl⟩
  · cases e; exact ⟨_, _, Tryz.type87, Tryz.underlying87, rfl, rfl, rfl, rfl⟩
  · cases e; exact ⟨_, _, Tryz.type88, Tryz.underlying88, rfl, rfl, rfl, rfl⟩
  · cases e; exact ⟨_, _, Tryz.type90, Tryz.underlying90, rfl, rfl, rfl, rfl⟩
  · cases e; exact ⟨_, _, Tryz.type92, Tryz.underlying92, rfl, rfl, rfl, rfl⟩
  · cases e; exact ⟨_, _, Tryz.type93, Tryz.underlying93, rfl, rfl, rfl, rfl⟩
  · cases e; exact ⟨_, _, Tryz.type94, Tryz.underlying94, rfl, rfl, rfl, rfl⟩
  · cases e; exact ⟨_, _, Tryz.type95, Tryz.underlying95, rfl, rfl, rfl, rfl⟩
  · cases e; exact ⟨_, _, Tryz.type96, Tryz.underlying96, rfl, rfl, rfl, rfl⟩
  · cases e; exact ⟨_, _, Tryz.type97, Tryz.underlying97, rfl, rfl, rfl, rfl⟩
  · cases e; exact ⟨_, _, Tryz.type98, Tryz.underlying98, rfl, rfl, rfl, rfl⟩
  · cases e; exact ⟨_, _, Tryz.type99, Tryz.underlying99, rfl, rfl, rfl, rfl⟩
  · cases e; exact ⟨_, _, Tryz.type100, Tryz.underlying100, rfl, rfl, rfl, rfl⟩
  · cases e; exact ⟨_, _, Tryz.type101, Tryz.underlying101, rfl, rfl, rfl, rfl⟩
  · cases e; exact ⟨_, _, Tryz.type102, Tryz.underlying102, rfl, rfl, rfl, rfl⟩
  · cases e; exact ⟨_, _, Tryz.type103, Tryz.underlying103, rfl, rfl, rfl, rfl⟩
  · cases e; exact ⟨_, _, Tryz.type104, Tryz.underlying104, rfl, rfl, rfl, rfl⟩
  · cases e; exact ⟨_, _, Tryz.type105, Tryz.underlying105, rfl, rfl, rfl, rfl⟩
  · cases e; exact ⟨_, _, Tryz.type106, Tryz.underlying106, rfl, rfl, rfl, rfl⟩
  · cases e; exact ⟨_, _, Tryz.type107, Tryz.underlying107, rfl, rfl, rfl, rfl⟩
  · cases e; exact ⟨_, _, Tryz.type108, Tryz.underlying108, rfl, rfl, rfl, rfl⟩
  · cases e; exact ⟨_, _, Tryz.type109, Tryz.underlying109, rfl, rfl, rfl, rfl⟩
  · cases e; exact ⟨_, _, Tryz.type110, Tryz.underlying110, rfl, rfl, rfl, rfl⟩
  · cases e; exact ⟨_, _, Tryz.type111, Tryz.underlying111, rfl, rfl, rfl, rfl⟩
  · cases e; exact ⟨_, _, Tryz.type112, Tryz.underlying112, rfl, rfl, rfl, rfl⟩
  · cases e; exact ⟨_, _, Tryz.type113, Tryz.underlying113, rfl, rfl, rfl, rfl⟩
  · cases e; exact ⟨_, _, Tryz.type114, Tryz.underlying114, rfl, rfl, rfl, rfl⟩
  · cases e; exact ⟨_, _, Tryz.type115, Tryz.underlying115, rfl, rfl, rfl, rfl⟩
  · cases e; exact ⟨_, _, Tryz.type116, Tryz.underlying116, rfl, rfl, rfl, rfl⟩
  · cases e; exact ⟨_, _, Tryz.type117, Tryz.underlying117, rfl, rfl, rfl, rfl⟩
  · cases e; exact ⟨_, _, Tryz.type119, Tryz.underlying119, rfl, rfl, rfl, rfl⟩
  · cases e; exact ⟨_, _, Tryz.type120, Tryz.underlying120, rfl, rfl, rfl, rfl⟩
  · cases e; exact ⟨_, _, Tryz.type121, Tryz.underlying121, rfl, rfl, rfl, rfl⟩
  · cases e; exact ⟨_, _, Tryz.type122, Tryz.underlying122, rfl, rfl, rfl, rfl⟩
  · cases e; exact ⟨_, _, Tryz.type123, Tryz.underlying123, rfl, rfl, rfl, rfl⟩
  · cases e; exact ⟨_, _, Tryz.type124, Tryz.underlying124, rfl, rfl, rfl, rfl⟩
  · cases e; exact ⟨_, _, Tryz.type125, Tryz.underlying125, rfl, rfl, rfl, rfl⟩
  · cases e; exact ⟨_, _, Tryz.type126, Tryz.underlying126, rfl, rfl, rfl, rfl⟩
  · cases e; exact ⟨_, _, Tryz.type127, Tryz.underlying127, rfl, rfl, rfl, rfl⟩
  · cases e; exact ⟨_, _, Tryz.type128, Tryz.underlying128, rfl, rfl, rfl, rfl⟩
  · cases e; exact ⟨_, _, Tryz.type129, Tryz.underlying129, rfl, rfl, rfl, rfl⟩
  · cases e; exact ⟨_, _, Tryz.type131, Tryz.underlying131, rfl, rfl, rfl, rfl⟩
  · cases e; exact ⟨_, _, Tryz.type132, Tryz.underlying132, rfl, rfl, rfl, rfl⟩
  · cases e; exact ⟨_, _, Tryz.type133, Tryz.underlying133, rfl, rfl, rfl, rfl⟩
  · cases e; exact ⟨_, _, Tryz.type134, Tryz.underlying134, rfl, rfl, rfl, rfl⟩
  · cases e; exact ⟨_, _, Tryz.type135, Tryz.underlying135, rfl, rfl, rfl, rfl⟩
  · cases e; exact ⟨_, _, Tryz.type136, Tryz.underlying136, rfl, rfl, rfl, rfl⟩
  · cases e; exact ⟨_, _, Tryz.type137, Tryz.underlying137, rfl, rfl, rfl, rfl⟩
  · cases e; exact ⟨_, _, Tryz.type138, Tryz.underlying138, rfl, rfl, rfl, rfl⟩
  · cases e; exact ⟨_, _, Tryz.type139, Tryz.underlying139, rfl, rfl, rfl, rfl⟩
  · cases e; exact ⟨_, _, Tryz.type140, Tryz.underlying140, rfl, rfl, rfl, rfl⟩
  · cases e; exact ⟨_, _, Tryz.type141, Tryz.underlying141, rfl, rfl, rfl, rfl⟩
  · cases e; exact ⟨_, _, Tryz.type142, Tryz.underlying142, rfl, rfl, rfl, rfl⟩
  · cases e; exact ⟨_, _, Tryz.type143, Tryz.underlying143, rfl, rfl, rfl, rfl⟩
  · cases e; exact ⟨_, _, Tryz.type144, Tryz.underlying144, rfl, rfl, rfl, rfl⟩
  · cases e; exact ⟨_, _, Tryz.type145, Tryz.underlying145, rfl, rfl, rfl, rfl⟩
  · cases e; exact ⟨_, _, Tryz.type146, Tryz.underlying146, rfl, rfl, rfl, rfl⟩
  · cases e; exact ⟨_, _, Tryz.type147, Tryz.underlying147, rfl, rfl, rfl, rfl⟩
  · cases e; exact ⟨_, _, Tryz.type148, Tryz.underlying148, rfl, rfl, rfl, rfl⟩
  · cases e; exact ⟨_, _, Tryz.type149, Tryz.underlying149, rfl, rfl, rfl, rfl⟩
  · cases e; exact ⟨_, _, Tryz.type150, Tryz.underlying150, rfl, rfl, rfl, rfl⟩
  · cases e; exact ⟨_, _, Tryz.type151, Tryz.underlying151, rfl, rfl, rfl, rfl⟩
  · cases e; exact ⟨_, _, Tryz.type152, Tryz.underlying152, rfl, rfl, rfl, rfl⟩
  · cases e; exact ⟨_, _, Tryz.type153, Tryz.underlying153, rfl, rfl, rfl, rfl⟩
  · cases e; exact ⟨_, _, Tryz.type154, Tryz.underlying154, rfl, rfl, rfl, rfl⟩
  · cases e; exact ⟨_, _, Tryz.type155, Tryz.underlying155, rfl, rfl, rfl, rfl⟩
  · cases e; exact ⟨_, _, Tryz.type156, Tryz.underlying156, rfl, rfl, rfl, rfl⟩
  · cases e; exact ⟨_, _, Tryz.type157, Tryz.underlying157, rfl, rfl, rfl, rfl⟩
  · cases e; exact ⟨_, _, Tryz.type158, Tryz.underlying158, rfl, rfl, rfl, rfl⟩
  · cases e; exact ⟨_, _, Tryz.type159, Tryz.underlying159, rfl, rfl, rfl, rfl⟩
  · cases e; exact ⟨_, _, Tryz.type160, Tryz.underlying160, rfl, rfl, rfl, rfl⟩
  · cases e; exact ⟨_, _, Tryz.type161, Tryz.underlying161, rfl, rfl, rfl, rfl⟩
  · cases e; exact ⟨_, _, Tryz.type162, Tryz.underlying162, rfl, rfl, rfl, rfl⟩
  · cases e; exact ⟨_, _, Tryz.type163, Tryz.underlying163, rfl, rfl, rfl, rfl⟩
  · cases e; exact ⟨_, _, Tryz.type164, Tryz.underlying164, rfl, rfl, rfl, rfl⟩
  · cases e; exact ⟨_, _, Tryz.type165, Tryz.underlying165, rfl, rfl, rfl, rfl⟩
  · cases e
theorem mixed : Tryz.prog.follows .mixedOrders = true := Tryz.checked.mixed
end Go.Proofs.YtkdendaohlnlcaaGreat.Av

/- How a function's text is gone through by simp: rules that look at the state alone; what comes behind is a closed word. No condition. -/
namespace Go.Proofs.YtkdendaohlnlcaaGreat.Av
set_option linter.unusedVariables false
set_option linter.unusedSimpArgs false

section
variable (P : Program) (tb : Tab) (Sp : Spec) (w0 : Base) (ro : Option Nat) (mb : List Tmp)
def thenL (p : List Nat) (b : Code) (R : AEx → FS → Prop) : AEx → FS → Prop := thenR (fun s => vc P tb Sp w0 ro mb p b s R) R
def blkL (id : Nat) (R : AEx → FS → Prop) : AEx → FS → Prop := blockR id R
def blkB (same : Bool) (j : Nat) (R : AEx → FS → Prop) (s : FS) : Prop := bif same then R .normal s else R (.exit j) s
def regL (R : AEx → FS → Prop) (n : Nat) : S → Prop := fun s' => R .normal ⟨s'.tmps, n + 1, s'.H⟩
def regD (ops : Array Oper) (R : AEx → FS → Prop) (n : Nat) : List (Nat × Ev) → S → Prop := fun evs s' => evs.Pairwise (fun x y => (beforeB ops y.1).testBit x.1 = true ∨ compat x.2 y.2) ∧ R .normal ⟨s'.tmps, n + 1, s'.H⟩
def regP (R : AEx → FS → Prop) (n : Nat) : S → AV → Prop := fun s' v => R (.panic v) ⟨s'.tmps, n + 1, s'.H⟩
def regDP (ops : Array Oper) (R : AEx → FS → Prop) (n : Nat) : Nat → List (Nat × Ev) → Hp → AV → Prop := fun j evs H' v => panOk ops j evs = true ∧ evs.Pairwise (fun x y => (beforeB ops y.1).testBit x.1 = true ∨ compat x.2 y.2) ∧ R (.panic v) ⟨[], n + 1, H'⟩
def seqL (ops : Array Oper) (kp : List Nat) (l : List Oper) (i : Nat) (t : List AV) (H : Hp) (K : S → Prop) (Kp : S → AV → Prop) : Prop := vcSeq P tb Sp w0 mb ops kp Kp (l.zipIdx i) ⟨t, H⟩ K
def stepL (ops : Array Oper) (kp : List Nat) (l : List Oper) (i : Nat) (dst : Option Tmp) (t : List AV) (H : Hp) (K : S → Prop) (Kp : S → AV → Prop) : Ev → Prop := fun ev => evK ev (vcSeq P tb Sp w0 mb ops kp Kp (l.zipIdx i) ⟨putA t dst ev.out, ev.post H⟩ K) fun H' v => Kp ⟨t, H'⟩ v
def drawL (ops : Array Oper) (kp : List Nat) (l : List Oper) (i : Nat) (t : List AV) (H : Hp) (acc : List (Nat × Ev)) (K : List (Nat × Ev) → S → Prop) (Kp : Nat → List (Nat × Ev) → Hp → AV → Prop) : Prop := vcDraw P tb Sp w0 mb ops kp (l.zipIdx i) ⟨t, H⟩ (fun evs s => K (acc ++ evs) s) fun j evs H' v => Kp j (acc ++ evs) H' v
def dstepL (ops : Array Oper) (kp : List Nat) (l : List Oper) (i idx : Nat) (dst : Option Tmp) (t : List AV) (H : Hp) (acc : List (Nat × Ev)) (K : List (Nat × Ev) → S → Prop) (Kp : Nat → List (Nat × Ev) → Hp → AV → Prop) : Ev → Prop := fun ev => evK ev (vcDraw P tb Sp w0 mb ops kp (l.zipIdx i) ⟨putA t dst ev.out, ev.post H⟩ (fun evs s => K (acc ++ (if ev.loud then (idx, ev) :: evs else evs)) s) fun j evs H' v => Kp j (acc ++ (if ev.loud then (idx, ev) :: evs else evs)) H' v) fun H' v => Kp idx (acc ++ []) H' v
def condL (p : List Nat) (a b : Code) (s : FS) (R : AEx → FS → Prop) (v : AV) : Prop := match v with
  | .raw (.bool t) => (t = true → vc P tb Sp w0 ro mb p a s R) ∧ (t = false → vc P tb Sp w0 ro mb p b s R)
  | _ => False
def guardL (draw : Bool) (key : List Nat) (o : Oper) (t : List AV) (H : Hp) (K : Ev → Prop) (want : Bool) (inn : Prop) (v : AV) : Prop := match v with
  | .raw (.bool b) => inn ∧ ((b == want) = true → vcOp P tb Sp w0 mb draw key o t H K) ∧ ((b == want) = false → K (.val AV.undef))
  | .raw (.tuple ⟨[]⟩) => inn ∧ K (.val AV.undef)
  | _ => False
end

section
variable {P : Program} {tb : Tab} {Sp : Spec} {w0 : Base} {ro : Option Nat} {mb : List Tmp} {p kp key : List Nat} {ops : Array Oper} {t : List AV} {H : Hp} {n : Nat} {R : AEx → FS → Prop}
@[go_sem] theorem vc_skip {s : FS} : vc P tb Sp w0 ro mb p .skip s R = R .normal s := rfl
@[go_sem] theorem vc_label {l : Nat} {s : FS} : vc P tb Sp w0 ro mb p (.label l) s R = R .normal s := rfl
@[go_sem] theorem vc_exit {i : Nat} {s : FS} : vc P tb Sp w0 ro mb p (.exit i) s R = R (.exit i) s := rfl
@[go_sem] theorem vc_ret {s : FS} : vc P tb Sp w0 ro mb p .ret s R = R .ret s := rfl
@[go_sem] theorem vc_block {i : Nat} {c : Code} {s : FS} : vc P tb Sp w0 ro mb p (.block i c) s R = vc P tb Sp w0 ro mb p c s (blkL i R) := rfl
@[go_sem] theorem vc_loop {c : Code} {s : FS} : vc P tb Sp w0 ro mb p (.loop c) s R = LoopOk P w0 ro p c s R := rfl
@[go_sem] theorem vc_scope {c : Code} {s : FS} : vc P tb Sp w0 none mb p (.scope c) s R = vc P tb Sp w0 none mb p c s R := by simp [vc]
@[go_sem] theorem vc_rangeFunc {f : Operand} {ps : Array Tmp} {a b : Code} {s : FS} : vc P tb Sp w0 ro mb p (.rangeFunc f ps a b) s R = DetOk P w0 ro p (.rangeFunc f ps a b) s R := rfl
/-- A sequence, its first part known. -/
def seqV (P : Program) (tb : Tab) (Sp : Spec) (w0 : Base) (ro : Option Nat) (mb : List Tmp) (p : List Nat) (a b : Code) (s : FS) (R : AEx → FS → Prop) (st : Bool) : Prop := bif st then DetOk P w0 ro p (.seq a b) s R else vc P tb Sp w0 ro mb p a s (thenL P tb Sp w0 ro mb p b R)
@[go_sem] theorem vc_seq {a b : Code} {s : FS} : vc P tb Sp w0 ro mb p (.seq a b) s R = seqV P tb Sp w0 ro mb p a b s R (isStr a) := by
  rw [vc, seqV]
  cases isStr a <;> rfl
@[go_sem] theorem seqV_true {a b : Code} {s : FS} : seqV P tb Sp w0 ro mb p a b s R true = DetOk P w0 ro p (.seq a b) s R := rfl
@[go_sem] theorem seqV_false {a b : Code} {s : FS} : seqV P tb Sp w0 ro mb p a b s R false = vc P tb Sp w0 ro mb p a s (thenL P tb Sp w0 ro mb p b R) := rfl
@[go_sem] theorem isStr_region {i : Nat} {l : List Oper} {d : Bool} : isStr (.region i l.toArray d) = lastRange l := rfl
attribute [go_sem] lastRange isRangeO
@[go_sem] theorem isStr_seq {a b : Code} : isStr (.seq a b) = false := rfl
@[go_sem] theorem isStr_cond {c : Operand} {a b : Code} : isStr (.cond c a b) = false := rfl
@[go_sem] theorem isStr_block {i : Nat} {a : Code} : isStr (.block i a) = false := rfl
@[go_sem] theorem isStr_loop {a : Code} : isStr (.loop a) = false := rfl
@[go_sem] theorem isStr_skip : isStr .skip = false := rfl
@[go_sem] theorem isStr_label {l : Nat} : isStr (.label l) = false := rfl
@[go_sem] theorem isStr_scope {a : Code} : isStr (.scope a) = false := rfl
@[go_sem] theorem isStr_rangeFunc {f : Operand} {ps : Array Tmp} {a b : Code} : isStr (.rangeFunc f ps a b) = false := rfl
@[go_sem] theorem isStr_ret : isStr .ret = false := rfl
@[go_sem] theorem isStr_exit {i : Nat} : isStr (.exit i) = false := rfl
@[go_sem] theorem vc_cond {c : Operand} {a b : Code} : vc P tb Sp w0 ro mb p (.cond c a b) ⟨t, n, H⟩ R = condL P tb Sp w0 ro mb p a b ⟨t, n, H⟩ R (evA t c) := rfl
@[go_sem] theorem vc_plain {i : Nat} {l : List Oper} : vc P tb Sp w0 ro mb p (.region i l.toArray false) ⟨t, n, H⟩ R = seqL P tb Sp w0 mb l.toArray (n :: p) l 0 t H (regL R n) (regP R n) := rfl
@[go_sem] theorem vc_drawn {i : Nat} {l : List Oper} : vc P tb Sp w0 ro mb p (.region i l.toArray true) ⟨t, n, H⟩ R = (drawOk l.toArray = true ∧ drawL P tb Sp w0 mb l.toArray (n :: p) l 0 t H [] (regD l.toArray R n) (regDP l.toArray R n)) := rfl
@[go_sem] theorem thenL_normal {b : Code} {s : FS} : thenL P tb Sp w0 ro mb p b R .normal s = vc P tb Sp w0 ro mb p b s R := rfl
@[go_sem] theorem thenL_exit {b : Code} {j : Nat} {s : FS} : thenL P tb Sp w0 ro mb p b R (.exit j) s = R (.exit j) s := rfl
@[go_sem] theorem thenL_ret {b : Code} {s : FS} : thenL P tb Sp w0 ro mb p b R .ret s = R .ret s := rfl
@[go_sem] theorem blkL_normal {i : Nat} {s : FS} : blkL i R .normal s = R .normal s := rfl
@[go_sem] theorem blkL_ret {i : Nat} {s : FS} : blkL i R .ret s = R .ret s := rfl
@[go_sem] theorem blkL_exit {i j : Nat} {s : FS} : blkL i R (.exit j) s = blkB (j == i) j R s := by
  unfold blkL blockR blkB
  by_cases h : j = i <;> simp [h]
@[go_sem] theorem blkB_true {j : Nat} {s : FS} : blkB true j R s = R .normal s := rfl
@[go_sem] theorem blkB_false {j : Nat} {s : FS} : blkB false j R s = R (.exit j) s := rfl
@[go_sem] theorem regL_at : regL R n ⟨t, H⟩ = R .normal ⟨t, n + 1, H⟩ := rfl
@[go_sem] theorem regD_at {evs : List (Nat × Ev)} : regD ops R n evs ⟨t, H⟩ = (evs.Pairwise (fun x y => (beforeB ops y.1).testBit x.1 = true ∨ compat x.2 y.2) ∧ R .normal ⟨t, n + 1, H⟩) := rfl
@[go_sem] theorem seqL_nil {i : Nat} {K : S → Prop} {Kp : S → AV → Prop} : seqL P tb Sp w0 mb ops kp [] i t H K Kp = K ⟨t, H⟩ := rfl
@[go_sem] theorem seqL_cons {o : Oper} {l : List Oper} {i : Nat} {K : S → Prop} {Kp : S → AV → Prop} : seqL P tb Sp w0 mb ops kp (o :: l) i t H K Kp = vcG P tb Sp w0 mb false ops (i :: kp) o ⟨t, H⟩ (stepL P tb Sp w0 mb ops kp l (i + 1) o.dst t H K Kp) := rfl
@[go_sem] theorem stepL_val {l : List Oper} {i : Nat} {dst : Option Tmp} {K : S → Prop} {Kp : S → AV → Prop} {v : AV} : stepL P tb Sp w0 mb ops kp l i dst t H K Kp (.val v) = seqL P tb Sp w0 mb ops kp l i (putA t dst v) H K Kp := rfl
@[go_sem] theorem stepL_rd {l : List Oper} {i : Nat} {dst : Option Tmp} {K : S → Prop} {Kp : S → AV → Prop} {v : AV} {d : Id} {c : List AV} : stepL P tb Sp w0 mb ops kp l i dst t H K Kp (.rd d c v) = seqL P tb Sp w0 mb ops kp l i (putA t dst v) H K Kp := rfl
@[go_sem] theorem stepL_eff {l : List Oper} {i : Nat} {dst : Option Tmp} {K : S → Prop} {Kp : S → AV → Prop} {v : AV} {H1 H2 : Hp} : stepL P tb Sp w0 mb ops kp l i dst t H K Kp (.eff H1 H2 v) = seqL P tb Sp w0 mb ops kp l i (putA t dst v) H2 K Kp := rfl
@[go_sem] theorem stepL_pan {l : List Oper} {i : Nat} {dst : Option Tmp} {K : S → Prop} {Kp : S → AV → Prop} {v : AV} {H1 H2 : Hp} : stepL P tb Sp w0 mb ops kp l i dst t H K Kp (.pan H1 H2 v) = Kp ⟨t, H2⟩ v := rfl
@[go_sem] theorem regP_at {v : AV} : regP R n ⟨t, H⟩ v = R (.panic v) ⟨t, n + 1, H⟩ := rfl
@[go_sem] theorem regDP_at {j : Nat} {evs : List (Nat × Ev)} {v : AV} : regDP ops R n j evs H v = (panOk ops j evs = true ∧ evs.Pairwise (fun x y => (beforeB ops y.1).testBit x.1 = true ∨ compat x.2 y.2) ∧ R (.panic v) ⟨[], n + 1, H⟩) := rfl
@[go_sem] theorem dstepL_pan {l : List Oper} {i idx : Nat} {dst : Option Tmp} {acc : List (Nat × Ev)} {K : List (Nat × Ev) → S → Prop} {Kp : Nat → List (Nat × Ev) → Hp → AV → Prop} {v : AV} {H1 H2 : Hp} : dstepL P tb Sp w0 mb ops kp l i idx dst t H acc K Kp (.pan H1 H2 v) = Kp idx acc H2 v := by simp [dstepL, evK]
@[go_sem] theorem thenL_panic {b : Code} {v : AV} {s : FS} : thenL P tb Sp w0 ro mb p b R (.panic v) s = R (.panic v) s := rfl
@[go_sem] theorem blkL_panic {i : Nat} {v : AV} {s : FS} : blkL i R (.panic v) s = R (.panic v) s := rfl
@[go_sem] theorem drawL_nil {i : Nat} {acc : List (Nat × Ev)} {K : List (Nat × Ev) → S → Prop} {Kp : Nat → List (Nat × Ev) → Hp → AV → Prop} : drawL P tb Sp w0 mb ops kp [] i t H acc K Kp = K acc ⟨t, H⟩ := by simp [drawL, vcDraw]
@[go_sem] theorem drawL_cons {o : Oper} {l : List Oper} {i : Nat} {acc : List (Nat × Ev)} {K : List (Nat × Ev) → S → Prop} {Kp : Nat → List (Nat × Ev) → Hp → AV → Prop} : drawL P tb Sp w0 mb ops kp (o :: l) i t H acc K Kp = vcG P tb Sp w0 mb true ops (i :: kp) o ⟨t, H⟩ (dstepL P tb Sp w0 mb ops kp l (i + 1) i o.dst t H acc K Kp) := rfl
@[go_sem] theorem dstepL_val {l : List Oper} {i idx : Nat} {dst : Option Tmp} {acc : List (Nat × Ev)} {K : List (Nat × Ev) → S → Prop} {Kp : Nat → List (Nat × Ev) → Hp → AV → Prop} {v : AV} : dstepL P tb Sp w0 mb ops kp l i idx dst t H acc K Kp (.val v) = drawL P tb Sp w0 mb ops kp l i (putA t dst v) H acc K Kp := rfl
@[go_sem] theorem dstepL_rd {l : List Oper} {i idx : Nat} {dst : Option Tmp} {acc : List (Nat × Ev)} {K : List (Nat × Ev) → S → Prop} {Kp : Nat → List (Nat × Ev) → Hp → AV → Prop} {v : AV} {d : Id} {c : List AV} : dstepL P tb Sp w0 mb ops kp l i idx dst t H acc K Kp (.rd d c v) = drawL P tb Sp w0 mb ops kp l i (putA t dst v) H (acc ++ [(idx, .rd d c v)]) K Kp := by simp [drawL, dstepL, Ev.loud, Ev.out, Ev.post, evK]
@[go_sem] theorem dstepL_eff {l : List Oper} {i idx : Nat} {dst : Option Tmp} {acc : List (Nat × Ev)} {K : List (Nat × Ev) → S → Prop} {Kp : Nat → List (Nat × Ev) → Hp → AV → Prop} {v : AV} {H1 H2 : Hp} : dstepL P tb Sp w0 mb ops kp l i idx dst t H acc K Kp (.eff H1 H2 v) = drawL P tb Sp w0 mb ops kp l i (putA t dst v) H2 (acc ++ [(idx, .eff H1 H2 v)]) K Kp := by simp [drawL, dstepL, Ev.loud, Ev.out, Ev.post, evK]
@[go_sem] theorem condL_bool {a b : Code} {s : FS} {v : Bool} : condL P tb Sp w0 ro mb p a b s R (.raw (.bool v)) = ((v = true → vc P tb Sp w0 ro mb p a s R) ∧ (v = false → vc P tb Sp w0 ro mb p b s R)) := rfl
@[go_sem high] theorem condL_true {a b : Code} {s : FS} : condL P tb Sp w0 ro mb p a b s R (.raw (.bool true)) = vc P tb Sp w0 ro mb p a s R := by simp [condL]
@[go_sem high] theorem condL_false {a b : Code} {s : FS} : condL P tb Sp w0 ro mb p a b s R (.raw (.bool false)) = vc P tb Sp w0 ro mb p b s R := by simp [condL]
end

/-- What an answer with a condition asks. -/
def optK (e : Option (Prop × AV)) (K : Ev → Prop) : Prop := match e with
  | some (φ, v) => φ ∧ K (.val v)
  | none => False
@[go_sem] theorem optK_some {φ : Prop} {v : AV} {K : Ev → Prop} : optK (some (φ, v)) K = (φ ∧ K (.val v)) := rfl

section
variable {P : Program} {tb : Tab} {Sp : Spec} {w0 : Base} {ro : Option Nat} {mb : List Tmp} {p kp key : List Nat} {ops : Array Oper} {draw : Bool} {dst : Option Tmp} {ty : TypeId} {pos : String} {after : Array Edge} {g : Option (Nat × Bool)} {t : List AV} {H : Hp} {K : Ev → Prop}
@[go_sem] theorem vcG_none {op : Op} : vcG P tb Sp w0 mb draw ops key ⟨dst, op, ty, pos, after, none⟩ ⟨t, H⟩ K = vcOp P tb Sp w0 mb draw key ⟨dst, op, ty, pos, after, none⟩ t H K := rfl
/-- The slot that an operation's answer goes to. -/
def slotOf : List Oper → Nat → Tmp
  | [], _ => 0
  | o :: _, 0 => o.dst.getD 0
  | _ :: os, n + 1 => slotOf os n
def hasSlot : List Oper → Nat → Bool
  | [], _ => false
  | o :: _, 0 => o.dst.isSome
  | _ :: os, n + 1 => hasSlot os n
theorem slotOf_eq : ∀ (l : List Oper) (j : Nat), hasSlot l j = true → (l.toArray[j]?).bind (·.dst) = some (slotOf l j)
  | [], j, h => by simp [hasSlot] at h
  | o :: l, 0, h => by
    simp only [hasSlot, Option.isSome_iff_exists] at h
    obtain ⟨d, h⟩ := h
    simp [slotOf, h]
  | o :: l, j + 1, h => by simpa [slotOf] using slotOf_eq l j h
theorem noSlot_eq : ∀ (l : List Oper) (j : Nat), hasSlot l j = false → (l.toArray[j]?).bind (·.dst) = none
  | [], j, h => by simp
  | o :: l, 0, h => by simpa [hasSlot] using h
  | o :: l, j + 1, h => by simpa using noSlot_eq l j h
@[go_sem] theorem vcG_some {l : List Oper} {op : Op} {j : Nat} {want : Bool} : vcG P tb Sp w0 mb draw l.toArray key ⟨dst, op, ty, pos, after, some (j, want)⟩ ⟨t, H⟩ K = (hasSlot l j = true ∧ guardL P tb Sp w0 mb draw key ⟨dst, op, ty, pos, after, none⟩ t H K want (slotOf l j < t.length) (t.getD (slotOf l j) AV.undef)) := by
  cases hj : hasSlot l j with
  | true =>
    simp only [vcG, slotOf_eq l j hj, true_and]
    rfl
  | false =>
    simp only [vcG, noSlot_eq l j hj]
    simp
@[go_sem] theorem guardL_true {o : Oper} {inn : Prop} {b : Bool} : guardL P tb Sp w0 mb draw key o t H K true inn (.raw (.bool b)) = (inn ∧ (b = true → vcOp P tb Sp w0 mb draw key o t H K) ∧ (b = false → K (.val AV.undef))) := by simp [guardL]
@[go_sem] theorem guardL_false {o : Oper} {inn : Prop} {b : Bool} : guardL P tb Sp w0 mb draw key o t H K false inn (.raw (.bool b)) = (inn ∧ (b = false → vcOp P tb Sp w0 mb draw key o t H K) ∧ (b = true → K (.val AV.undef))) := by simp [guardL]
@[go_sem high] theorem guardL_undef {o : Oper} {want : Bool} {inn : Prop} : guardL P tb Sp w0 mb draw key o t H K want inn (.raw undef) = (inn ∧ K (.val AV.undef)) := rfl
@[go_sem high] theorem guardL_undef' {o : Oper} {want : Bool} {inn : Prop} : guardL P tb Sp w0 mb draw key o t H K want inn (.raw (.tuple #[])) = (inn ∧ K (.val AV.undef)) := rfl
@[go_sem high] theorem guardL_tt {o : Oper} {inn : Prop} : guardL P tb Sp w0 mb draw key o t H K true inn (.raw (.bool true)) = (inn ∧ vcOp P tb Sp w0 mb draw key o t H K) := by simp [guardL]
@[go_sem high] theorem guardL_tf {o : Oper} {inn : Prop} : guardL P tb Sp w0 mb draw key o t H K true inn (.raw (.bool false)) = (inn ∧ K (.val AV.undef)) := by simp [guardL]
@[go_sem high] theorem guardL_ft {o : Oper} {inn : Prop} : guardL P tb Sp w0 mb draw key o t H K false inn (.raw (.bool true)) = (inn ∧ K (.val AV.undef)) := by simp [guardL]
@[go_sem high] theorem guardL_ff {o : Oper} {inn : Prop} : guardL P tb Sp w0 mb draw key o t H K false inn (.raw (.bool false)) = (inn ∧ vcOp P tb Sp w0 mb draw key o t H K) := by simp [guardL]
attribute [go_sem] slotOf hasSlot
@[go_sem] theorem vcOp_move {x : Operand} : vcOp P tb Sp w0 mb draw key ⟨dst, .move x, ty, pos, after, g⟩ t H K = K (.val (evA t x)) := by simp [vcOp, opN]
@[go_sem] theorem vcOp_assign {x : Operand} : vcOp P tb Sp w0 mb draw key ⟨dst, .assign x, ty, pos, after, g⟩ t H K = K (.val (evA t x)) := by simp [vcOp, opN]
def pickA (c a b : AV) : Option (Prop × AV) := match c with
  | .raw (.bool t) => some (True, bif t then a else b)
  | _ => none
@[go_sem] theorem vcOp_pick {c a b : Operand} : vcOp P tb Sp w0 mb draw key ⟨dst, .pick c a b, ty, pos, after, g⟩ t H K = optK (pickA (evA t c) (evA t a) (evA t b)) K := rfl
@[go_sem] theorem vcOp_makeFunc {fn : Fn} {a b : List Operand} : vcOp P tb Sp w0 mb draw key ⟨dst, .makeFunc fn a.toArray b.toArray, ty, pos, after, g⟩ t H K = K (.val (.clo fn (a.map (evA t)) (b.map (evA t)))) := by simp [vcOp, opN]
def mkIfaceA (tb : Tab) (ty : TypeId) (v : AV) : Option (Prop × AV) := match tb ty with
  | some ⟨.iface _, _, _, _⟩ => none
  | some _ => some (True, .iface ty v)
  | none => none
@[go_sem] theorem vcOp_makeInterface {u : TypeId} {x : Operand} : vcOp P tb Sp w0 mb draw key ⟨dst, .makeInterface u x, ty, pos, after, g⟩ t H K = optK (mkIfaceA tb u (evA t x)) K := rfl
@[go_sem] theorem vcOp_extract {x : Operand} {i : Nat} : vcOp P tb Sp w0 mb draw key ⟨dst, .extract x i, ty, pos, after, g⟩ t H K = optK (extractA i (evA t x)) K := rfl
@[go_sem] theorem vcOp_field {u : TypeId} {x : Operand} {f : Nat} : vcOp P tb Sp w0 mb draw key ⟨dst, .field u x f, ty, pos, after, g⟩ t H K = optK (fieldA tb u f (evA t x)) K := rfl
@[go_sem] theorem vcOp_fieldAddr {u : TypeId} {x : Operand} {f : Nat} : vcOp P tb Sp w0 mb draw key ⟨dst, .fieldAddr u x f, ty, pos, after, g⟩ t H K = optK (fieldAddrA tb u f (evA t x)) K := rfl
@[go_sem] theorem vcOp_indexAddr {u : TypeId} {x i : Operand} : vcOp P tb Sp w0 mb draw key ⟨dst, .indexAddr u x i, ty, pos, after, g⟩ t H K = optK (indexAddrA tb u (evA t x) (evA t i)) K := rfl
@[go_sem] theorem vcOp_index {u : TypeId} {x i : Operand} : vcOp P tb Sp w0 mb draw key ⟨dst, .index u x i, ty, pos, after, g⟩ t H K = optK (indexA tb u (evA t x) (evA t i)) K := rfl
@[go_sem] theorem vcOp_nilCheck {x : Operand} : vcOp P tb Sp w0 mb draw key ⟨dst, .nilCheck x, ty, pos, after, g⟩ t H K = optK (nilCheckA (evA t x)) K := rfl
@[go_sem] theorem vcOp_binOp {op : BinOp} {u v : TypeId} {x y : Operand} : vcOp P tb Sp w0 mb draw key ⟨dst, .binOp op u x y v, ty, pos, after, g⟩ t H K = vcBin P tb op u (isNilC y) (evA t x) (evA t y) K := rfl
@[go_sem] theorem vcBin_raw {op : BinOp} {u : TypeId} {nl : Bool} {x : Value} {y : AV} : vcBin P tb op u nl (.raw x) y K = optK (binN tb op u nl (.raw x) y) K := by cases y <;> rfl
@[go_sem] theorem vcBin_ptr {op : BinOp} {u : TypeId} {nl : Bool} {i : Id} {o : Nat} {y : AV} : vcBin P tb op u nl (.ptr i o) y K = optK (binN tb op u nl (.ptr i o) y) K := by cases y <;> rfl
@[go_sem] theorem vcBin_sptr {op : BinOp} {u : TypeId} {nl : Bool} {c : List AV} {y : AV} : vcBin P tb op u nl (.sptr c) y K = optK (binN tb op u nl (.sptr c) y) K := by cases y <;> rfl
@[go_sem] theorem vcBin_iface {op : BinOp} {u w : TypeId} {nl : Bool} {v y : AV} : vcBin P tb op u nl (.iface w v) y K = optK (binN tb op u nl (.iface w v) y) K := by cases y <;> rfl
def eqK (P : Program) (u : TypeId) (K : Ev → Prop) (neg : Bool) (a b : List AV) (ka kb : Option (List PK)) : Prop := match ka, kb with
  | some ks, some ls => ls = ks ∧ eqAsk P u ks = true ∧ K (.val (.bool (neg != eqA a b)))
  | _, _ => False
theorem eqK_intro {u : TypeId} {neg : Bool} {a b : List AV} (h : eqK P u K neg a b (kindsA a) (kindsA b)) : ∃ ks, kindsA a = some ks ∧ kindsA b = some ks ∧ eqAsk P u ks = true ∧ K (.val (.bool (neg != eqA a b))) := by
  unfold eqK at h
  split at h
  · rename_i ks ls h1 h2
    obtain ⟨rfl, h3, h4⟩ := h
    exact ⟨ls, h1, h2, h3, h4⟩
  · exact h.elim
theorem eqK_iff {u : TypeId} {neg : Bool} {a b : List AV} : (∃ ks, kindsA a = some ks ∧ kindsA b = some ks ∧ eqAsk P u ks = true ∧ K (.val (.bool (neg != eqA a b)))) ↔ eqK P u K neg a b (kindsA a) (kindsA b) :=
  ⟨fun ⟨ks, h1, h2, h3, h4⟩ => by rw [h1, h2]; exact ⟨rfl, h3, h4⟩, eqK_intro⟩
@[go_sem] theorem vcBin_eql {u : TypeId} {nl : Bool} {a b : List AV} : vcBin P tb .eql u nl (.agg a) (.agg b) K = eqK P u K false a b (kindsA a) (kindsA b) := by
  rw [← eqK_iff]
  simp only [vcBin]
  refine propext ⟨?_, fun ⟨ks, h1, h2, h3, h4⟩ => ⟨ks, false, rfl, h1, h2, h3, h4⟩⟩
  rintro ⟨ks, neg, h0, h1, h2, h3, h4⟩
  cases neg
  · exact ⟨ks, h1, h2, h3, h4⟩
  · cases h0
@[go_sem] theorem vcBin_neq {u : TypeId} {nl : Bool} {a b : List AV} : vcBin P tb .neq u nl (.agg a) (.agg b) K = eqK P u K true a b (kindsA a) (kindsA b) := by
  rw [← eqK_iff]
  simp only [vcBin]
  refine propext ⟨?_, fun ⟨ks, h1, h2, h3, h4⟩ => ⟨ks, true, rfl, h1, h2, h3, h4⟩⟩
  rintro ⟨ks, neg, h0, h1, h2, h3, h4⟩
  cases neg
  · cases h0
  · exact ⟨ks, h1, h2, h3, h4⟩
@[go_sem] theorem bne_t (b : Bool) : (true != b) = !b := by cases b <;> rfl
@[go_sem] theorem bne_f (b : Bool) : (false != b) = b := by cases b <;> rfl
@[go_sem] theorem eqK_some {u : TypeId} {neg : Bool} {a b : List AV} {ks ls : List PK} : eqK P u K neg a b (some ks) (some ls) = (ls = ks ∧ eqAsk P u ks = true ∧ K (.val (.bool (neg != eqA a b)))) := rfl
@[go_sem] theorem vcOp_unOp {op : UnOp} {u : TypeId} {x : Operand} : vcOp P tb Sp w0 mb draw key ⟨dst, .unOp op u x, ty, pos, after, g⟩ t H K = optK (unA op (evA t x)) K := rfl
/-- A pointer that is turned into another kind of pointer. -/
def ptrK (e : Option Prop) (id : Id) (off : Nat) (K : Ev → Prop) : Prop := match e with
  | some φ => φ ∧ K (.val (.ptr id off))
  | none => False
@[go_sem] theorem ptrK_some {φ : Prop} {id : Id} {off : Nat} : ptrK (some φ) id off K = (φ ∧ K (.val (.ptr id off))) := rfl
def convK (P : Program) (tb : Tab) (u v : TypeId) (K : Ev → Prop) (x : AV) : Prop := match x with
  | .ptr id off => ptrK (convP P tb u v id off) id off K
  | x => optK (convA tb u v x) K
@[go_sem] theorem vcOp_convert {u v : TypeId} {x : Operand} : vcOp P tb Sp w0 mb draw key ⟨dst, .convert u v x, ty, pos, after, g⟩ t H K = convK P tb u v K (evA t x) := by
  simp only [vcOp, convK]
  generalize evA t x = y
  cases y <;> rfl
@[go_sem] theorem convK_raw {u v : TypeId} {x : Value} : convK P tb u v K (.raw x) = optK (convA tb u v (.raw x)) K := rfl
@[go_sem] theorem convK_ptr {u v : TypeId} {id : Id} {off : Nat} : convK P tb u v K (.ptr id off) = ptrK (convP P tb u v id off) id off K := rfl
def dataK (H : Hp) (K : Ev → Prop) (x : AV) (ti : Option TI) : Prop := match x, ti with
  | .list tk xs, some ⟨.pointer _, _, _, _⟩ => dataOk H tk xs ∧ K (.eff H H (.rowp tk xs))
  | _, _ => False
@[go_sem] theorem vcOp_sliceData {x : Operand} {us : Array TypeId} : vcOp P tb Sp w0 mb draw key ⟨dst, .call ⟨.builtin .unsafeSliceData, #[x], us⟩, ty, pos, after, g⟩ t H K = dataK H K (evA t x) (tb ty) := rfl
@[go_sem] theorem dataK_list {tk : Tok} {xs : List (List AV)} {e : TypeId} {a b : Nat} {z : Value} : dataK H K (.list tk xs) (some ⟨.pointer e, a, b, z⟩) = (dataOk H tk xs ∧ K (.eff H H (.rowp tk xs))) := rfl
def strK (P : Program) (H : Hp) (K : Ev → Prop) (x y : AV) (ti : Option TI) : Prop := match ti with
  | some ⟨.pointer e, _, _, _⟩ => match x with
    | .rowp tk xs => match strOf xs with
      | some s => y = .int .i64 s.size ∧ (s.size : Int) ≤ 9223372036854775807 ∧ strOk P H e tk s ∧ K (.eff H (killTok H tk) (.str s))
      | none => False
    | _ => False
  | _ => False
@[go_sem] theorem vcOp_unsafeString {x y : Operand} {u v : TypeId} : vcOp P tb Sp w0 mb draw key ⟨dst, .call ⟨.builtin .unsafeString, #[x, y], #[u, v]⟩, ty, pos, after, g⟩ t H K = strK P H K (evA t x) (evA t y) (tb u) := rfl
@[go_sem] theorem strK_bytes {tk : Tok} {s : ByteArray} {y : AV} {e : TypeId} {a b : Nat} {z : Value} : strK P H K (.rowp tk (bytesA s)) y (some ⟨.pointer e, a, b, z⟩) = (y = .int .i64 s.size ∧ (s.size : Int) ≤ 9223372036854775807 ∧ strOk P H e tk s ∧ K (.eff H (killTok H tk) (.str s))) := by
  simp only [strK, strOf_self]
@[go_sem] theorem vcOp_slice {u : TypeId} {x : Operand} {lo hi : Option Operand} : vcOp P tb Sp w0 mb draw key ⟨dst, .slice u x lo hi none, ty, pos, after, g⟩ t H K = optK (sliceA tb u (evA t x) (lo.map (evA t)) (hi.map (evA t))) K := rfl
@[go_sem] theorem vcOp_typeAssert {u v : TypeId} {x : Operand} {ok : Bool} : vcOp P tb Sp w0 mb draw key ⟨dst, .typeAssert x u v ok, ty, pos, after, g⟩ t H K = optK (assertA tb v ok (evA t x)) K := rfl
@[go_sem] theorem vcOp_build {u : TypeId} {parts : List (Nat × Operand)} : vcOp P tb Sp w0 mb draw key ⟨dst, .build u parts.toArray, ty, pos, after, g⟩ t H K = optK (buildA tb u (parts.map fun p => (p.1, evA t p.2))) K := rfl
@[go_sem] theorem vcOp_len {x : Operand} {u : TypeId} : vcOp P tb Sp w0 mb draw key ⟨dst, .call ⟨.builtin .len, #[x], #[u]⟩, ty, pos, after, g⟩ t H K = optK (lenA tb u (evA t x)) K := rfl
@[go_sem] theorem vcOp_max {xs : List Operand} {us : Array TypeId} : vcOp P tb Sp w0 mb draw key ⟨dst, .call ⟨.builtin .max, xs.toArray, us⟩, ty, pos, after, g⟩ t H K = optK (minmaxA true (xs.map (evA t))) K := rfl
@[go_sem] theorem vcOp_min {xs : List Operand} {us : Array TypeId} : vcOp P tb Sp w0 mb draw key ⟨dst, .call ⟨.builtin .min, xs.toArray, us⟩, ty, pos, after, g⟩ t H K = optK (minmaxA false (xs.map (evA t))) K := rfl
/-- Boxes: with a name, or as what does not change. -/
def boxL (var : Bool) (et : TypeId) (key : List Nat) (H : Hp) (K : Ev → Prop) (v : AV) : Prop := bif var then K (.eff H (H.upd ⟨v.cells.length, key, et⟩ (some (.cells v.cells))) (.ptr ⟨v.cells.length, key, et⟩ 0)) else K (.val (.sptr v.cells))
@[go_sem] theorem vcOp_box {u : TypeId} {x : Operand} {d : Tmp} : vcOp P tb Sp w0 mb draw key ⟨some d, .box u x, ty, pos, after, g⟩ t H K = boxL (mb.elem d) u key H K (evA t x) := by
  simp only [vcOp, boxL, List.contains_eq_any_beq, List.elem_eq_contains]
  cases mb.any fun a => d == a <;> rfl
@[go_sem] theorem boxL_true {v : AV} {et : TypeId} : boxL true et key H K v = K (.eff H (H.upd ⟨v.cells.length, key, et⟩ (some (.cells v.cells))) (.ptr ⟨v.cells.length, key, et⟩ 0)) := rfl
@[go_sem] theorem boxL_false {v : AV} {et : TypeId} : boxL false et key H K v = K (.val (.sptr v.cells)) := rfl
def litK (e : Option AV) (K : Ev → Prop) : Prop := match e with
  | some v => K (.val v)
  | none => False
@[go_sem] theorem litK_some {v : AV} : litK (some v) K = K (.val v) := rfl
@[go_sem] theorem vcOp_buildSlice {u : TypeId} {n : Nat} {parts : List (Nat × Operand)} : vcOp P tb Sp w0 mb draw key ⟨dst, .buildSlice u n parts.toArray, ty, pos, after, g⟩ t H K = litK (sliceLitA tb u n (parts.map fun p => (p.1, evA t p.2))) K := rfl
def allocK (draw : Bool) (et : TypeId) (key : List Nat) (H : Hp) (K : Ev → Prop) (e : Option TI) : Prop := match e with
  | some te => (absC te.zero).cells.length = te.size ∧ if draw then K (.val (.ptr ⟨te.size, key, et⟩ 0)) else K (.eff H (H.upd ⟨te.size, key, et⟩ (some (.cells (absC te.zero).cells))) (.ptr ⟨te.size, key, et⟩ 0))
  | none => False
@[go_sem] theorem vcOp_alloc {u : TypeId} : vcOp P tb Sp w0 mb draw key ⟨dst, .alloc u, ty, pos, after, g⟩ t H K = allocK draw u key H K (tb u) := rfl
@[go_sem] theorem allocK_true {te : TI} {et : TypeId} : allocK true et key H K (some te) = ((absC te.zero).cells.length = te.size ∧ K (.val (.ptr ⟨te.size, key, et⟩ 0))) := rfl
@[go_sem] theorem allocK_false {te : TI} {et : TypeId} : allocK false et key H K (some te) = ((absC te.zero).cells.length = te.size ∧ K (.eff H (H.upd ⟨te.size, key, et⟩ (some (.cells (absC te.zero).cells))) (.ptr ⟨te.size, key, et⟩ 0))) := rfl
def rdK (id : Id) (off : Nat) (K : Ev → Prop) (ti : Option TI) (e : Option Ent) : Prop := match ti, e with
  | some ti, some (.cells c) => (off + ti.size ≤ c.length ∧ 0 < ti.size) ∧ K (.rd id c (readA ti c off))
  | _, _ => False
@[go_sem] theorem rdK_some {id : Id} {off : Nat} {ti : TI} {c : List AV} : rdK id off K (some ti) (some (.cells c)) = ((off + ti.size ≤ c.length ∧ 0 < ti.size) ∧ K (.rd id c (readA ti c off))) := rfl
def loadK (tb : Tab) (u : TypeId) (H : Hp) (K : Ev → Prop) (x : AV) : Prop := match x with
  | .ptr id off => rdK id off K (tb u) (H id)
  | v => optK (loadA tb u v) K
@[go_sem] theorem vcOp_load {u : TypeId} {x : Operand} : vcOp P tb Sp w0 mb draw key ⟨dst, .load u x, ty, pos, after, g⟩ t H K = loadK tb u H K (evA t x) := by
  simp only [vcOp, loadK]
  generalize evA t x = v
  cases v <;> try rfl
  rename_i id off
  simp only [rdK]
  cases hu : tb u with
  | none => simp
  | some ti =>
    cases hH : H id with
    | none => simp
    | some e =>
      cases e with
      | tok => simp
      | cells c => simp
@[go_sem] theorem loadK_ptr {u : TypeId} {id : Id} {off : Nat} : loadK tb u H K (.ptr id off) = rdK id off K (tb u) (H id) := rfl
@[go_sem] theorem loadK_sptr {u : TypeId} {c : List AV} : loadK tb u H K (.sptr c) = optK (loadA tb u (.sptr c)) K := rfl
def storeL (H : Hp) (K : Ev → Prop) (id : Id) (off : Nat) (y : AV) (ti : Option TI) : Prop := match ti with
  | some ti => y.cells.length = ti.size ∧ y.cells.all oneA = true ∧
        if off = 0 ∧ ti.size = id.sz then K (.eff H (H.upd id (some (.cells y.cells))) AV.undef)
        else off + ti.size ≤ id.sz ∧ ∃ c, H id = some (.cells c) ∧ K (.eff H (H.upd id (some (.cells (layAt c off y.cells)))) AV.undef)
  | none => False
def storeK (tb : Tab) (u : TypeId) (H : Hp) (K : Ev → Prop) (x y : AV) : Prop := match x with
  | .ptr id off => storeL H K id off y (tb u)
  | _ => False
@[go_sem] theorem vcOp_store {u : TypeId} {x y : Operand} : vcOp P tb Sp w0 mb draw key ⟨dst, .store u x y, ty, pos, after, g⟩ t H K = storeK tb u H K (evA t x) (evA t y) := by
  simp only [vcOp, storeK, storeL]
  generalize evA t x = v
  cases v <;> rfl
@[go_sem] theorem storeK_ptr {u : TypeId} {id : Id} {off : Nat} {y : AV} : storeK tb u H K (.ptr id off) y = storeL H K id off y (tb u) := rfl
def storeW (whole : Bool) (H : Hp) (K : Ev → Prop) (id : Id) (off : Nat) (y : AV) (ti : TI) (e : Option Ent) : Prop := match whole, e with
  | true, _ => K (.eff H (H.upd id (some (.cells y.cells))) AV.undef)
  | false, some (.cells c) => off + ti.size ≤ id.sz ∧ K (.eff H (H.upd id (some (.cells (layAt c off y.cells)))) AV.undef)
  | _, _ => False
@[go_sem] theorem storeL_some {id : Id} {off : Nat} {y : AV} {ti : TI} : storeL H K id off y (some ti) = (y.cells.length = ti.size ∧ y.cells.all oneA = true ∧ storeW (off == 0 && ti.size == id.sz) H K id off y ti (H id)) := by
  unfold storeL storeW
  by_cases h : off = 0 ∧ ti.size = id.sz
  · simp [h]
  · have h' : (off == 0 && ti.size == id.sz) = false := by simpa using h
    simp only [h, h', if_false]
    cases hH : H id with
    | none => simp
    | some e =>
      cases e with
      | tok => simp
      | cells c => simp
@[go_sem] theorem storeW_true {id : Id} {off : Nat} {y : AV} {ti : TI} {e : Option Ent} : storeW true H K id off y ti e = K (.eff H (H.upd id (some (.cells y.cells))) AV.undef) := rfl
@[go_sem] theorem storeW_false {id : Id} {off : Nat} {y : AV} {ti : TI} {c : List AV} : storeW false H K id off y ti (some (.cells c)) = (off + ti.size ≤ id.sz ∧ K (.eff H (H.upd id (some (.cells (layAt c off y.cells)))) AV.undef)) := rfl
@[go_sem high] theorem upd_at_same {id : Id} {e : Option Ent} : (H.upd id e) id = e := Hp.upd_same _ _ _
@[go_sem] theorem upd_at {id j : Id} {e : Option Ent} : (H.upd id e) j = if j = id then e else H j := rfl
@[go_sem] theorem upd_upd {id : Id} {a b : Option Ent} : (H.upd id a).upd id b = H.upd id b := by
  funext j
  simp only [Hp.upd]
  split <;> rfl
attribute [go_sem] AV.raw.injEq Value.int.injEq Value.bool.injEq Value.string.injEq
attribute [go_sem] Id.mk.injEq List.cons.injEq reduceCtorEq List.all_cons List.all_nil oneA Bool.and_true Bool.true_and Bool.false_and Bool.and_false
def appS (te : TI) (e : TypeId) (key : List Nat) (H : Hp) (K : Ev → Prop) (tk : Tok) (xs : List (List AV)) (r : Option (Prop × List (List AV))) : Prop := match r with
  | some (ψ, ys) => ψ ∧ (∀ y ∈ xs, y.length = te.size) ∧ 0 < te.size ∧ (absC te.zero).cells.length = te.size ∧ ys.flatten.all oneA = true ∧
      (xs.length + ys.length) * te.bytes ≤ 140737488355328 ∧ xs.length + ys.length ≤ 4611686018427387904 ∧ tokLive H te.size e tk ∧
      K (.eff H ((killTok H tk).upd ⟨te.size, key, e⟩ (some .tok)) (.list (tokBy tk ys ⟨te.size, key, e⟩) (xs ++ ys.map (·.map strip))))
  | none => False
def appendK (tb : Tab) (key : List Nat) (u u' : TypeId) (H : Hp) (K : Ev → Prop) (x y : AV) : Prop := match tb u with
  | some ⟨.slice e, _, _, _⟩ => match tb e with
    | some te => match x with
      | .list tk xs => appS te e key H K tk xs (srcA tb te.size u' y)
      | _ => False
    | none => False
  | _ => False
@[go_sem] theorem vcOp_append {u u' : TypeId} {x y : Operand} : vcOp P tb Sp w0 mb draw key ⟨dst, .call ⟨.builtin .append, #[x, y], #[u, u']⟩, ty, pos, after, g⟩ t H K = appendK tb key u u' H K (evA t x) (evA t y) := rfl
@[go_sem] theorem appS_some {te : TI} {e : TypeId} {tk : Tok} {xs ys : List (List AV)} {ψ : Prop} : appS te e key H K tk xs (some (ψ, ys)) = (ψ ∧ (∀ y ∈ xs, y.length = te.size) ∧ 0 < te.size ∧ (absC te.zero).cells.length = te.size ∧ ys.flatten.all oneA = true ∧
      (xs.length + ys.length) * te.bytes ≤ 140737488355328 ∧ xs.length + ys.length ≤ 4611686018427387904 ∧ tokLive H te.size e tk ∧
      K (.eff H ((killTok H tk).upd ⟨te.size, key, e⟩ (some .tok)) (.list (tokBy tk ys ⟨te.size, key, e⟩) (xs ++ ys.map (·.map strip))))) := rfl
/-- What a call asks: that somebody knows what comes of it. -/
def callK (P : Program) (w0 : Base) (key : List Nat) (f : FuncId) (args : List AV) (H : Hp) (K : Ev → Prop) (e : Option (Prop × AV)) : Prop := match e with
  | some (φ, v) => φ ∧ K (.val v)
  | none => ∃ H' v, (CallAt P w0 key f args H H' v ∧ K (.eff H H' v)) ∨ (PanAt P w0 key f args H H' v ∧ K (.pan H H' v))
/-- What a call of a loop's yield asks. -/
def yieldK (P : Program) (w0 : Base) (key : List Nat) (l : Nat) (args : List AV) (H : Hp) (K : Ev → Prop) : Prop := ∃ H' v, YieldIn P w0 key l args H H' v ∧ K (.eff H H' v)
def callF (P : Program) (Sp : Spec) (w0 : Base) (key : List Nat) (args : List AV) (H : Hp) (K : Ev → Prop) (f : AV) : Prop := match f with
  | .clo (.func f) first caps => callK P w0 key f (first ++ args ++ caps) H K (Sp f (first ++ args ++ caps))
  | .clo (.yield l) [] [] => yieldK P w0 key l args H K
  | _ => False
@[go_sem] theorem vcOp_call {f : Operand} {xs : List Operand} {us : Array TypeId} : vcOp P tb Sp w0 mb draw key ⟨dst, .call ⟨.value f, xs.toArray, us⟩, ty, pos, after, g⟩ t H K = callF P Sp w0 key (xs.map (evA t)) H K (evA t f) := by
  simp only [vcOp, callF, callK]
  generalize evA t f = v
  cases v <;> rfl
@[go_sem] theorem callF_yield {l : Nat} {args : List AV} : callF P Sp w0 key args H K (.clo (.yield l) [] []) = yieldK P w0 key l args H K := rfl
@[go_sem] theorem callF_clo {f : FuncId} {first caps args : List AV} : callF P Sp w0 key args H K (.clo (.func f) first caps) = callK P w0 key f (first ++ args ++ caps) H K (Sp f (first ++ args ++ caps)) := rfl
@[go_sem] theorem callK_some {f : FuncId} {args : List AV} {φ : Prop} {v : AV} : callK P w0 key f args H K (some (φ, v)) = (φ ∧ K (.val v)) := rfl
theorem CallAt.pre {k : List Nat} {f : FuncId} {args : List AV} {H0 H H' : Hp} {v : AV} (h : CallAt P w0 k f args H0 H' v) (hl : H0.Le H) : CallAt P w0 k f args H H' v := by
  rcases h with h | ⟨fn, e, h1, h2, h3, h4, h5, h6⟩
  · exact .inl ⟨h.1, fun G w ca hs hf hr R hR => h.2 G w ca (hs.forget hl) hf hr R hR⟩
  · exact .inr ⟨fn, e, h1, h2, h3, h4, h5, fun G w ca hs hf hr => h6 G w ca (hs.forget hl) hf hr⟩
theorem YieldIn.pre {k : List Nat} {l : Nat} {args : List AV} {H0 H H' : Hp} {v : AV} (h : YieldIn P w0 k l args H0 H' v) (hl : H0.Le H) : YieldIn P w0 k l args H H' v := fun G w ca hs hf hr R hR => h G w ca (hs.forget hl) hf hr R hR
theorem yieldK_intro {l : Nat} {args : List AV} {H0 H' : Hp} {v : AV} (h : YieldIn P w0 key l args H0 H' v) (hl : H0.Le H) (k : K (.eff H H' v)) : yieldK P w0 key l args H K := ⟨H', v, h.pre hl, k⟩
theorem callK_pre {f : FuncId} {args : List AV} {H0 H' : Hp} {v : AV} (h : CallAt P w0 key f args H0 H' v) (hl : H0.Le H) (k : K (.eff H H' v)) : callK P w0 key f args H K none := ⟨H', v, .inl ⟨h.pre hl, k⟩⟩
theorem callK_intro {f : FuncId} {args : List AV} {H' : Hp} {v : AV} (h : CallAt P w0 key f args H H' v) (k : K (.eff H H' v)) : callK P w0 key f args H K none := ⟨H', v, .inl ⟨h, k⟩⟩
theorem PanAt.pre {k : List Nat} {f : FuncId} {args : List AV} {H0 H H' : Hp} {v : AV} (h : PanAt P w0 k f args H0 H' v) (hl : H0.Le H) : PanAt P w0 k f args H H' v := ⟨h.1, fun G w ca hs hf hr R hR => h.2 G w ca (hs.forget hl) hf hr R hR⟩
/-- What follows a call's outcome. -/
def outK (K : Ev → Prop) (H H' : Hp) : Out → Prop
  | .ret v => K (.eff H H' v)
  | .pan v => K (.pan H H' v)
@[go_sem] theorem outK_ret {H' : Hp} {v : AV} : outK K H H' (.ret v) = K (.eff H H' v) := rfl
@[go_sem] theorem outK_pan {H' : Hp} {v : AV} : outK K H H' (.pan v) = K (.pan H H' v) := rfl
theorem callK_out {f : FuncId} {args : List AV} {H' : Hp} {o : Out} (h : CallO P w0 key f args H H' o) (k : outK K H H' o) : callK P w0 key f args H K none := by
  cases o with
  | ret v => exact ⟨H', v, .inl ⟨h, k⟩⟩
  | pan v => exact ⟨H', v, .inr ⟨h, k⟩⟩
/-- A panic of the text's own. -/
def panK (H : Hp) (K : Ev → Prop) (v : AV) : Prop := match v with
  | .iface t v => K (.pan H H (.iface t v))
  | _ => False
@[go_sem] theorem vcOp_panic {x : Operand} : vcOp P tb Sp w0 mb draw key ⟨dst, .panic x, ty, pos, after, g⟩ t H K = panK H K (evA t x) := by
  simp only [vcOp, panK]
  generalize evA t x = v
  cases v <;> rfl
@[go_sem] theorem panK_iface {u : TypeId} {v : AV} : panK H K (.iface u v) = K (.pan H H (.iface u v)) := rfl
end

@[go_sem] theorem evA_tmp {t : List AV} {i : Nat} : evA t (.tmp i) = t.getD i AV.undef := rfl
@[go_sem] theorem evA_const {t : List AV} {v : Value} : evA t (.const v) = absC v := rfl
@[go_sem] theorem evA_func {t : List AV} {f : Nat} : evA t (.func f) = .clo (.func f) [] [] := rfl
@[go_sem] theorem absC_bool {b : Bool} : absC (.bool b) = .raw (.bool b) := rfl
@[go_sem] theorem absC_int {k : IntKind} {n : Int} : absC (.int k n) = .raw (.int k n) := rfl
@[go_sem] theorem absC_string {s : ByteArray} : absC (.string s) = .raw (.string s) := rfl
@[go_sem] theorem absC_slice : absC (.slice none 0 0) = .list .nil [] := rfl
@[go_sem] theorem absC_niliface : absC .nilIface = .raw .nilIface := rfl
@[go_sem] theorem absC_nilfunc : absC .nilFunc = .raw .nilFunc := rfl
@[go_sem] theorem absC_nilptr : absC (.pointer none) = .raw (.pointer none) := rfl
@[go_sem] theorem absC_tuple {c : Array Value} : absC (.tuple c) = .raw (.tuple c) := rfl
@[go_sem] theorem absC_agg {c : List Value} : absC (.agg c.toArray) = .agg (c.map absC1) := rfl
@[go_sem] theorem absC1_bool {b : Bool} : absC1 (.bool b) = .raw (.bool b) := rfl
@[go_sem] theorem absC1_int {k : IntKind} {n : Int} : absC1 (.int k n) = .raw (.int k n) := rfl
@[go_sem] theorem absC1_string {s : ByteArray} : absC1 (.string s) = .raw (.string s) := rfl
@[go_sem] theorem absC1_slice : absC1 (.slice none 0 0) = .list .nil [] := rfl
@[go_sem] theorem absC1_nilptr : absC1 (.pointer none) = .raw (.pointer none) := rfl
@[go_sem] theorem absC1_nilfunc : absC1 .nilFunc = .raw .nilFunc := rfl
@[go_sem] theorem absC1_niliface : absC1 .nilIface = .raw .nilIface := rfl
@[go_sem] theorem putA_some {t : List AV} {d : Tmp} {v : AV} : putA t (some d) v = t.set d v := rfl
@[go_sem] theorem putA_none {t : List AV} {v : AV} : putA t none v = t := rfl
theorem getD_set {t : List AV} {i j : Nat} {v d : AV} : (t.set i v).getD j d = bif i == j then (if i < t.length then v else d) else t.getD j d := by
  rw [List.getD_eq_getElem?_getD, List.getElem?_set]
  by_cases h : i = j
  · subst h
    simp only [if_true, beq_self_eq_true, cond_true]
    split <;> rfl
  · simp only [h, if_false, beq_false_of_ne h, cond_false, ← List.getD_eq_getElem?_getD]
attribute [go_sem] getD_set List.length_set List.map_cons List.map_nil List.cons_append List.nil_append List.append_nil Option.map_some Option.map_none cond_true cond_false
attribute [go_sem] Option.getD_some Option.getD_none Option.isSome_some Option.isSome_none true_and and_true implies_true Bool.true_eq_false Bool.false_eq_true false_implies true_implies if_true if_false and_self forall_const
attribute [go_sem] thenR
attribute [go_sem] Bool.not_true Bool.not_false
attribute [go_sem] ge_iff_le gt_iff_lt List.elem List.length_cons List.length_nil List.getD_cons_zero List.getD_cons_succ List.drop_succ_cons List.take_succ_cons List.take_zero List.length_map List.set_cons_zero List.set_cons_succ List.mem_cons List.not_mem_nil
attribute [go_sem] isNilC nilI binN binA binInt binStr binBool unA convA pickA lenA indexA indexAddrA fieldA fieldAddrA loadA nilCheckA extractA sliceA minmaxA buildA fillA placeOf srcA appendK convP binPtr ptrEq layAt partA readA TI.isAgg sliceLitA mkIfaceA AV.cells List.drop_zero List.getElem?_cons_zero List.getElem?_cons_succ Int.toNat_natCast

@[go_sem] theorem zeroCells_zero {z : Value} : zeroCellsA z 0 = [] := rfl
@[go_sem] theorem zeroCells_succ {z : Value} {n : Nat} : zeroCellsA z (n + 1) = zeroCellsA z n ++ [(absC z).cells.getD (n % (absC z).cells.length) AV.undef] := by
  simp only [zeroCellsA, List.range_succ, List.map_append, List.map_cons, List.map_nil]
attribute [go_sem] chunks
@[go_sem] theorem killTok_full {H : Hp} : killTok H .full = H := rfl
@[go_sem] theorem killTok_nil {H : Hp} : killTok H .nil = H := rfl
@[go_sem] theorem killTok_tok' {H : Hp} {t : Id} : killTok H (.tok t) = H.upd t none := rfl
@[go_sem] theorem strip_raw {v : Value} : strip (.raw v) = .raw v := rfl
def TD.isI : TD → Bool
  | .iface _ => true
  | _ => false
@[go_sem] theorem isI_bool : TD.isI .bool = false := rfl
@[go_sem] theorem isI_int {k : IntKind} : TD.isI (.int k) = false := rfl
@[go_sem] theorem isI_string : TD.isI .string = false := rfl
@[go_sem] theorem isI_pointer {e : TypeId} : TD.isI (.pointer e) = false := rfl
@[go_sem] theorem isI_slice {e : TypeId} : TD.isI (.slice e) = false := rfl
@[go_sem] theorem isI_array {n : Nat} {e : TypeId} : TD.isI (.array n e) = false := rfl
@[go_sem] theorem isI_struct {fs : List (Nat × TypeId)} : TD.isI (.struct fs) = false := rfl
def assertT (same : Bool) (z : Value) (ok : Bool) (v : AV) : Option (Prop × AV) := match same, ok with
  | true, true => some (True, .tup [v, .bool true])
  | true, false => some (True, v)
  | false, true => some (True, .tup [absC z, .bool false])
  | false, false => none
@[go_sem] theorem assertT_tt {z : Value} {v : AV} : assertT true z true v = some (True, .tup [v, .bool true]) := rfl
@[go_sem] theorem assertT_tf {z : Value} {v : AV} : assertT true z false v = some (True, v) := rfl
@[go_sem] theorem assertT_ft {z : Value} {v : AV} : assertT false z true v = some (True, .tup [absC z, .bool false]) := rfl
def assertV (i : Bool) (z : Value) (a : TypeId) (ok : Bool) (x : AV) : Option (Prop × AV) := match i with
  | true => none
  | false => match x with
    | .iface t v => assertT (t == a) z ok v
    | .raw .nilIface => assertT false z ok AV.undef
    | _ => none
@[go_sem] theorem assertV_iface {z : Value} {a t : TypeId} {ok : Bool} {v : AV} : assertV false z a ok (.iface t v) = assertT (t == a) z ok v := rfl
@[go_sem] theorem assertV_nil {z : Value} {a : TypeId} {ok : Bool} : assertV false z a ok (.raw .nilIface) = assertT false z ok AV.undef := rfl
def assertW (e : Option TI) (a : TypeId) (ok : Bool) (x : AV) : Option (Prop × AV) := match e with
  | some ti => assertV ti.td.isI ti.zero a ok x
  | none => none
@[go_sem] theorem assertW_some {d : TD} {s b : Nat} {z : Value} {a : TypeId} {ok : Bool} {x : AV} : assertW (some ⟨d, s, b, z⟩) a ok x = assertV d.isI z a ok x := rfl
@[go_sem] theorem assertA_at {tb : Tab} {a : TypeId} {ok : Bool} {x : AV} : assertA tb a ok x = assertW (tb a) a ok x := by
  unfold assertA assertW assertV assertT
  cases tb a with
  | none => rfl
  | some ti =>
    obtain ⟨d, s, b, z⟩ := ti
    cases d <;> try rfl
    all_goals
      cases x with
      | iface t v =>
        by_cases h : t = a
        · subst h
          cases ok <;> simp [TD.isI]
        · have h2 : (t == a) = false := by simpa using h
          cases ok <;> simp [h, h2, TD.isI]
      | raw v => cases v <;> cases ok <;> rfl
      | _ => cases ok <;> rfl
/-- How a body ends. -/
def endR (tb : Tab) (rs : List ResultVar) (v : AV) (H' : Hp) : AEx → FS → Prop := fun x s' => (x = .normal ∨ x = .ret) ∧ ∃ u, resA tb rs s' = some u ∧ Weak u v ∧ H'.Le s'.H
def endK (v : AV) (H' H : Hp) (u : Option AV) : Prop := ∃ x, u = some x ∧ Weak x v ∧ H'.Le H
section
variable {tb : Tab} {rs : List ResultVar} {v : AV} {H H' : Hp} {s : FS}
@[go_sem] theorem endR_normal : endR tb rs v H' .normal s = endK v H' s.H (resA tb rs s) := by simp [endR, endK]
@[go_sem] theorem endR_ret : endR tb rs v H' .ret s = endK v H' s.H (resA tb rs s) := by simp [endR, endK]
@[go_sem] theorem endR_panic {u : AV} : endR tb rs v H' (.panic u) s = False := by simp [endR]
@[go_sem] theorem endK_some {u : AV} : endK v H' H (some u) = (Weak u v ∧ H'.Le H) := by simp [endK]
@[go_sem] theorem le_self : H.Le H = True := by simp [Hp.Le]
@[go_sem] theorem weak_self : Weak v v = True := eq_true (Weak.refl v)
theorem weak_raw {a b : Value} : Weak (.raw a) (.raw b) = (a = b) := by
  refine propext ⟨fun h => ?_, fun h => h ▸ Weak.refl _⟩
  have := h ⟨fun _ => none, fun _ => none, fun _ => none, fun _ => none⟩ a (by simp [Rep])
  simpa [Rep] using this
@[go_sem] theorem weak_bool {a b : Bool} : Weak (.raw (.bool a)) (.raw (.bool b)) = (a = b) := by rw [weak_raw]; simp
@[go_sem] theorem weak_int {k k' : IntKind} {a b : Int} : Weak (.raw (.int k a)) (.raw (.int k' b)) = (k = k' ∧ a = b) := by rw [weak_raw]; simp
@[go_sem] theorem weak_str {a b : ByteArray} : Weak (.raw (.string a)) (.raw (.string b)) = (a = b) := by rw [weak_raw]; simp
@[go_sem] theorem resA_nil : resA tb [] s = some (.tup []) := rfl
@[go_sem] theorem resA_one {r : ResultVar} : resA tb [r] s = resOne tb s r := by
  unfold resA resAll resAll
  cases resOne tb s r <;> rfl
@[go_sem] theorem resA_two {r q : ResultVar} : resA tb [r, q] s = (resOne tb s r).bind fun a => (resOne tb s q).bind fun b => some (.tup [a, b]) := by
  unfold resA resAll resAll resAll
  cases resOne tb s r <;> cases resOne tb s q <;> rfl
@[go_sem] theorem resA_three {r q o : ResultVar} : resA tb [r, q, o] s = (resOne tb s r).bind fun a => (resOne tb s q).bind fun b => (resOne tb s o).bind fun c => some (.tup [a, b, c]) := by
  unfold resA resAll resAll resAll resAll
  cases resOne tb s r <;> cases resOne tb s q <;> cases resOne tb s o <;> rfl
@[go_sem] theorem resOne_tmp {t : List AV} {n : Nat} {i : Tmp} : resOne tb ⟨t, n, H⟩ (.tmp i) = some (t.getD i AV.undef) := rfl
attribute [go_sem] Option.bind_some
def cellK (ti : Option TI) (off : Nat) (e : Option Ent) : Option AV := match ti, e with
  | some ti, some (.cells c) => if off + ti.size ≤ c.length ∧ 0 < ti.size then some (readA ti c off) else none
  | _, _ => none
def cellR (tb : Tab) (H : Hp) (ty : TypeId) (v : AV) : Option AV := match v with
  | .ptr id off => cellK (tb ty) off (H id)
  | .sptr cells => match tb ty with
    | some ti => if ti.size ≤ cells.length ∧ 0 < ti.size then some (partA ti cells 0) else none
    | none => none
  | _ => none
@[go_sem] theorem resOne_cell {t : List AV} {n : Nat} {i : Tmp} {ty : TypeId} : resOne tb ⟨t, n, H⟩ (.cell i ty) = cellR tb H ty (t.getD i AV.undef) := by
  simp only [resOne, cellR]
  generalize t.getD i AV.undef = v
  cases v <;> rfl
@[go_sem] theorem cellR_ptr {ty : TypeId} {id : Id} {off : Nat} : cellR tb H ty (.ptr id off) = cellK (tb ty) off (H id) := rfl
@[go_sem] theorem cellK_some {ti : TI} {off : Nat} {c : List AV} : cellK (some ti) off (some (.cells c)) = if off + ti.size ≤ c.length ∧ 0 < ti.size then some (readA ti c off) else none := rfl
end

/-- How a loop's round ends. -/
def loopL (I : Nat → FS → Prop) (j : Nat) (R : AEx → FS → Prop) : AEx → FS → Prop := thenR (fun s => ∃ j', j = j' + 1 ∧ I j' s) R
section
variable {I : Nat → FS → Prop} {j : Nat} {R : AEx → FS → Prop} {s : FS}
@[go_sem] theorem loopL_normal : loopL I j R .normal s = (∃ j', j = j' + 1 ∧ I j' s) := rfl
@[go_sem] theorem loopL_exit {i : Nat} : loopL I j R (.exit i) s = R (.exit i) s := rfl
@[go_sem] theorem loopL_ret : loopL I j R .ret s = R .ret s := rfl
@[go_sem] theorem loopL_panic {v : AV} : loopL I j R (.panic v) s = R (.panic v) s := rfl
end
/-- A loop, by what holds at its head and how many rounds are left at most. -/
theorem loop_inv {P : Program} {tb : Tab} {Sp : Spec} {w0 : Base} {ro : Option Nat} {p : List Nat} (hT : TabOk P tb) (hS : SpecOk P w0 Sp) (hm : P.follows .mixedOrders = true) (mb : List Tmp) {c : Code} {s : FS} {R : AEx → FS → Prop}
    (I : Nat → FS → Prop) (j0 : Nat) (h0 : I j0 s) (h : ∀ j s, I j s → vc P tb Sp w0 ro mb p c s (loopL I j R)) : LoopOk P w0 ro p c s R := by
  have go : ∀ j s, I j s → ∃ x s', R x s' ∧ LoopN P w0 ro p (j + 1) c s (eqR x s') := by
    intro j
    induction j with
    | zero =>
      intro s hs
      obtain ⟨x, s', h1, h2⟩ := vc_det hT hS hm _ _ _ (h 0 s hs)
      cases x with
      | normal => obtain ⟨j', hj, _⟩ := h1; omega
      | exit i =>
        refine ⟨.exit i, s', h1, loop_step (h2.mono fun y t hy => ?_)⟩
        obtain ⟨rfl, rfl⟩ := hy
        exact ⟨rfl, rfl⟩
      | ret =>
        refine ⟨.ret, s', h1, loop_step (h2.mono fun y t hy => ?_)⟩
        obtain ⟨rfl, rfl⟩ := hy
        exact ⟨rfl, rfl⟩
      | panic v =>
        refine ⟨.panic v, s', h1, loop_step (h2.mono fun y t hy => ?_)⟩
        obtain ⟨rfl, rfl⟩ := hy
        exact ⟨rfl, rfl⟩
    | succ j ih =>
      intro s hs
      obtain ⟨x, s', h1, h2⟩ := vc_det hT hS hm _ _ _ (h (j + 1) s hs)
      cases x with
      | normal =>
        obtain ⟨j', hj, hI⟩ := h1
        obtain rfl : j' = j := by omega
        obtain ⟨y, s2, h3, h4⟩ := ih s' hI
        refine ⟨y, s2, h3, loop_step (h2.mono fun z t hz => ?_)⟩
        obtain ⟨rfl, rfl⟩ := hz
        exact h4
      | exit i =>
        refine ⟨.exit i, s', h1, loop_step (h2.mono fun y t hy => ?_)⟩
        obtain ⟨rfl, rfl⟩ := hy
        exact ⟨rfl, rfl⟩
      | ret =>
        refine ⟨.ret, s', h1, loop_step (h2.mono fun y t hy => ?_)⟩
        obtain ⟨rfl, rfl⟩ := hy
        exact ⟨rfl, rfl⟩
      | panic v =>
        refine ⟨.panic v, s', h1, loop_step (h2.mono fun y t hy => ?_)⟩
        obtain ⟨rfl, rfl⟩ := hy
        exact ⟨rfl, rfl⟩
  obtain ⟨x, s', h1, h2⟩ := go j0 s h0
  exact ⟨x, s', h1, _, h2⟩

/-- Slots from a place on. -/
def At (t : List AV) : Nat → List AV → Prop
  | _, [] => True
  | i, a :: vs => t.getD i AV.undef = a ∧ At t (i + 1) vs
theorem at_prefix (r : List AV) : ∀ (l vs : List AV), At (l ++ (vs ++ r)) l.length vs
  | l, [] => trivial
  | l, a :: vs => by
    refine ⟨by simp [List.getD_eq_getElem?_getD], ?_⟩
    have := at_prefix r (l ++ [a]) vs
    simpa using this

/-- A call, out of the function's body: of slots that hold the arguments. -/
theorem bodyAt {P : Program} {tb : Tab} {Sp : Spec} {w0 : Base} {k : List Nat} (hT : TabOk P tb) (hS : SpecOk P w0 Sp) (hm : P.follows .mixedOrders = true) {f : FuncId} {fn : Func} {c : Code} {args : List AV} {H H' : Hp} {v : AV} (hf : P.funcs[f]? = some fn) (hb : fn.body = some c) (hn : (fn.name == "runtime.NumGoroutine") = false)
    {rs : List ResultVar} {nt : Nat} (hrs : fn.results = rs.toArray) (hnt : fn.ntmps = nt) (ha : args.length ≤ nt) (mb : List Tmp)
    (h : (∀ i : Id, k <:+ i.key → H i = none) → ∀ t, t.length = nt → At t 0 args → vc P tb Sp w0 none mb k c ⟨t, 0, H⟩ (endR tb rs v H')) : BodyAt P w0 k f args H H' v :=
  callAt_of_vc hT hS hm hf hb hn hrs hnt mb fun hfr => h hfr _ (by simp; omega) (at_prefix _ [] args)
theorem callAt {P : Program} {tb : Tab} {Sp : Spec} {w0 : Base} {k : List Nat} (hT : TabOk P tb) (hS : SpecOk P w0 Sp) (hm : P.follows .mixedOrders = true) {f : FuncId} {fn : Func} {c : Code} {args : List AV} {H H' : Hp} {v : AV} (hf : P.funcs[f]? = some fn) (hb : fn.body = some c) (hn : (fn.name == "runtime.NumGoroutine") = false)
    {rs : List ResultVar} {nt : Nat} (hrs : fn.results = rs.toArray) (hnt : fn.ntmps = nt) (ha : args.length ≤ nt) (mb : List Tmp)
    (h : (∀ i : Id, k <:+ i.key → H i = none) → ∀ t, t.length = nt → At t 0 args → vc P tb Sp w0 none mb k c ⟨t, 0, H⟩ (endR tb rs v H')) : CallAt P w0 k f args H H' v := .inl (bodyAt hT hS hm hf hb hn hrs hnt ha mb h)
/-- How a body ends, if what it comes to is told. -/
def endO (tb : Tab) (rs : List ResultVar) (o : Out) (H' : Hp) : AEx → FS → Prop := endOx tb rs o H'
def retO (o : Out) (H' H : Hp) (u : Option AV) : Prop := ∃ x, u = some x ∧ ∃ v, o = .ret v ∧ Weak x v ∧ H'.Le H
section
variable {tb : Tab} {rs : List ResultVar} {o : Out} {H H' : Hp} {s : FS}
@[go_sem] theorem endO_normal : endO tb rs o H' .normal s = retO o H' s.H (resA tb rs s) := propext ⟨fun ⟨v, h1, u, h2, h3, h4⟩ => ⟨u, h2, v, h1, h3, h4⟩, fun ⟨u, h2, v, h1, h3, h4⟩ => ⟨v, h1, u, h2, h3, h4⟩⟩
@[go_sem] theorem endO_ret : endO tb rs o H' .ret s = retO o H' s.H (resA tb rs s) := endO_normal
@[go_sem] theorem endO_panic {u : AV} : endO tb rs o H' (.panic u) s = ∃ v, o = .pan v ∧ Weak u v ∧ H'.Le s.H := rfl
@[go_sem] theorem retO_some {u : AV} : retO o H' H (some u) = ∃ v, o = .ret v ∧ Weak u v ∧ H'.Le H := by simp [retO]
end
theorem callO {P : Program} {tb : Tab} {Sp : Spec} {w0 : Base} {k : List Nat} (hT : TabOk P tb) (hS : SpecOk P w0 Sp) (hm : P.follows .mixedOrders = true) {f : FuncId} {fn : Func} {c : Code} {args : List AV} {H H' : Hp} {o : Out} (hf : P.funcs[f]? = some fn) (hb : fn.body = some c) (hn : (fn.name == "runtime.NumGoroutine") = false)
    {rs : List ResultVar} {nt : Nat} (hrs : fn.results = rs.toArray) (hnt : fn.ntmps = nt) (ha : args.length ≤ nt) (mb : List Tmp)
    (h : (∀ i : Id, k <:+ i.key → H i = none) → ∀ t, t.length = nt → At t 0 args → vc P tb Sp w0 none mb k c ⟨t, 0, H⟩ (endO tb rs o H')) : CallO P w0 k f args H H' o :=
  (callO_of_vc hT hS hm hf hb hn hrs hnt mb fun hfr => h hfr _ (by simp; omega) (at_prefix _ [] args)).call
/-- How a body ends, of which something is told. -/
def endX (tb : Tab) (rs : List ResultVar) (Q : Hp → AV → Prop) : AEx → FS → Prop := fun x s' => (x = .normal ∨ x = .ret) ∧ ∃ u, resA tb rs s' = some u ∧ ∃ v, Weak u v ∧ ∃ H', H'.Le s'.H ∧ Q H' v
def endXK (Q : Hp → AV → Prop) (H : Hp) (u : Option AV) : Prop := ∃ x, u = some x ∧ ∃ v, Weak x v ∧ ∃ H', H'.Le H ∧ Q H' v
section
variable {tb : Tab} {rs : List ResultVar} {H : Hp} {s : FS} {Q : Hp → AV → Prop}
@[go_sem] theorem endX_normal : endX tb rs Q .normal s = endXK Q s.H (resA tb rs s) := by simp [endX, endXK]
@[go_sem] theorem endX_ret : endX tb rs Q .ret s = endXK Q s.H (resA tb rs s) := by simp [endX, endXK]
@[go_sem] theorem endX_panic {u : AV} : endX tb rs Q (.panic u) s = False := by simp [endX]
@[go_sem] theorem endXK_some {u : AV} : endXK Q H (some u) = ∃ v, Weak u v ∧ ∃ H', H'.Le H ∧ Q H' v := by simp [endXK]
end
theorem callX {P : Program} {tb : Tab} {Sp : Spec} {w0 : Base} {k : List Nat} (hT : TabOk P tb) (hS : SpecOk P w0 Sp) (hm : P.follows .mixedOrders = true) {f : FuncId} {fn : Func} {c : Code} {args : List AV} {H : Hp} {Q : Hp → AV → Prop} (hf : P.funcs[f]? = some fn) (hb : fn.body = some c) (hn : (fn.name == "runtime.NumGoroutine") = false)
    {rs : List ResultVar} {nt : Nat} (hrs : fn.results = rs.toArray) (hnt : fn.ntmps = nt) (ha : args.length ≤ nt) (mb : List Tmp) (hQ : ∃ H' v, Q H' v)
    (h : (∀ i : Id, k <:+ i.key → H i = none) → ∀ t, t.length = nt → At t 0 args → vc P tb Sp w0 none mb k c ⟨t, 0, H⟩ (endX tb rs Q)) : ∃ H' v, Q H' v ∧ CallAt P w0 k f args H H' v := by
  obtain ⟨H', v, h1, h2⟩ := callX_of_vc hT hS hm hf hb hn hrs hnt mb hQ fun hfr => h hfr _ (by simp; omega) (at_prefix _ [] args)
  exact ⟨H', v, h1, .inl h2⟩
theorem callK_ex {P : Program} {w0 : Base} {key : List Nat} {f : FuncId} {args : List AV} {K : Ev → Prop} {H : Hp} {Q : Hp → AV → Prop} (h : ∃ H' v, Q H' v ∧ CallAt P w0 key f args H H' v) (hk : ∀ H' v, Q H' v → K (.eff H H' v)) : callK P w0 key f args H K none := by
  obtain ⟨H', v, h1, h2⟩ := h
  exact ⟨H', v, .inl ⟨h2, hk H' v h1⟩⟩
theorem specOk_none {P : Program} {w0 : Base} : SpecOk P w0 (fun _ _ => none) := fun _ _ _ _ h => by cases h
theorem wrap_i64 {n : Int} (h : -9223372036854775808 ≤ n) (h2 : n < 9223372036854775808) : IntKind.i64.wrap n = n := by
  rw [IntKind.wrap_i64]
  omega
end Go.Proofs.YtkdendaohlnlcaaGreat.Av

/- What is known of functions, kept as a list; arguments are read as plain data. No condition. -/
namespace Go.Proofs.YtkdendaohlnlcaaGreat.Av
set_option linter.unusedVariables false
set_option linter.unusedSimpArgs false
set_option maxRecDepth 4000
set_option maxHeartbeats 1000000

/-- Pairs, one by one. -/
def allR {α : Type} (R : α → α → Prop) (x : α) : List α → Prop
  | [] => True
  | y :: l => R x y ∧ allR R x l
def pwAll {α : Type} (R : α → α → Prop) : List α → Prop
  | [] => True
  | x :: l => allR R x l ∧ pwAll R l
theorem allR_mem {α : Type} {R : α → α → Prop} {x : α} : ∀ {l : List α}, allR R x l → ∀ y ∈ l, R x y
  | [], _, y, hy => by cases hy
  | z :: l, h, y, hy => by
    rcases List.mem_cons.1 hy with rfl | hy
    · exact h.1
    · exact allR_mem h.2 y hy
theorem pw_of {α : Type} {R : α → α → Prop} : ∀ {l : List α}, pwAll R l → l.Pairwise R
  | [], _ => List.Pairwise.nil
  | x :: l, h => List.Pairwise.cons (allR_mem h.1) (pw_of h.2)
theorem CallAt.weakL {P : Program} {w0 : Base} {k : List Nat} {f : FuncId} {args args' : List AV} {H H' : Hp} {v : AV} (h : CallAt P w0 k f args' H H' v) (hw : WeakL args args') : CallAt P w0 k f args H H' v := h.weak fun G V hr => hw.rep hr

/-- How plain data lie in values, and how they are read off. -/
structure Dec (α : Type) where
  dec : AV → Option α
  enc : α → AV
  ok : ∀ a x, dec a = some x → Weak a (enc x)

abbrev Ans := List AV → Option (Prop × AV)
def Spec.no : Spec := fun _ _ => none
def Spec.add (S : Spec) (f : FuncId) (d : Ans) : Spec := fun g as_ => bif g == f then d as_ else S g as_
@[go_sem] theorem Spec.add_at {S : Spec} {f g : FuncId} {d : Ans} {l : List AV} : S.add f d g l = bif g == f then d l else S g l := rfl

def AnsOk (P : Program) (w0 : Base) (f : FuncId) (d : Ans) : Prop := ∀ l φ v, d l = some (φ, v) → φ → ∀ k H, CallAt P w0 k f l H H v
section
variable {P : Program} {w0 : Base}
theorem Spec.no_ok : SpecOk P w0 Spec.no := fun _ _ _ _ h => by cases h
theorem SpecOk.add {S : Spec} (h : SpecOk P w0 S) {f : FuncId} {d : Ans} (hd : AnsOk P w0 f d) : SpecOk P w0 (S.add f d) := by
  intro g l φ v e hφ k H
  unfold Spec.add at e
  cases hg : g == f with
  | true =>
    rw [hg] at e
    obtain rfl : g = f := by simpa using hg
    exact hd l φ v e hφ k H
  | false =>
    rw [hg] at e
    exact h g l φ v e hφ k H
end
section
variable {α β γ δ : Type}
def sp1 (A : Dec α) (φ : α → Prop) (v : α → AV) : Ans
  | [a] => (A.dec a).bind fun x => some (φ x, v x)
  | _ => none
def sp2 (A : Dec α) (B : Dec β) (φ : α → β → Prop) (v : α → β → AV) : Ans
  | [a, b] => (A.dec a).bind fun x => (B.dec b).bind fun y => some (φ x y, v x y)
  | _ => none
def sp3 (A : Dec α) (B : Dec β) (C : Dec γ) (φ : α → β → γ → Prop) (v : α → β → γ → AV) : Ans
  | [a, b, c] => (A.dec a).bind fun x => (B.dec b).bind fun y => (C.dec c).bind fun z => some (φ x y z, v x y z)
  | _ => none
def sp4 (A : Dec α) (B : Dec β) (C : Dec γ) (D : Dec δ) (φ : α → β → γ → δ → Prop) (v : α → β → γ → δ → AV) : Ans
  | [a, b, c, d] => (A.dec a).bind fun x => (B.dec b).bind fun y => (C.dec c).bind fun z => (D.dec d).bind fun u => some (φ x y z u, v x y z u)
  | _ => none
variable {A : Dec α} {B : Dec β} {C : Dec γ} {D : Dec δ}
@[go_sem] theorem sp1_at {φ : α → Prop} {v : α → AV} {a : AV} : sp1 A φ v [a] = (A.dec a).bind fun x => some (φ x, v x) := rfl
@[go_sem] theorem sp2_at {φ : α → β → Prop} {v : α → β → AV} {a b : AV} : sp2 A B φ v [a, b] = (A.dec a).bind fun x => (B.dec b).bind fun y => some (φ x y, v x y) := rfl
@[go_sem] theorem sp3_at {φ : α → β → γ → Prop} {v : α → β → γ → AV} {a b c : AV} : sp3 A B C φ v [a, b, c] = (A.dec a).bind fun x => (B.dec b).bind fun y => (C.dec c).bind fun z => some (φ x y z, v x y z) := rfl
@[go_sem] theorem sp4_at {φ : α → β → γ → δ → Prop} {v : α → β → γ → δ → AV} {a b c d : AV} : sp4 A B C D φ v [a, b, c, d] = (A.dec a).bind fun x => (B.dec b).bind fun y => (C.dec c).bind fun z => (D.dec d).bind fun u => some (φ x y z u, v x y z u) := rfl
variable {P : Program} {w0 : Base} {f : FuncId}
theorem sp1_ok {φ : α → Prop} {v : α → AV} (h : ∀ x, φ x → ∀ k H, CallAt P w0 k f [A.enc x] H H (v x)) : AnsOk P w0 f (sp1 A φ v) := by
  intro l ψ u e hψ k H
  unfold sp1 at e
  split at e
  · simp only [Option.bind_eq_some_iff] at e
    obtain ⟨x, hx, e⟩ := e
    cases e
    exact (h x hψ k H).weakL ⟨_, _, rfl, A.ok _ _ hx, rfl⟩
  · cases e
theorem sp2_ok {φ : α → β → Prop} {v : α → β → AV} (h : ∀ x y, φ x y → ∀ k H, CallAt P w0 k f [A.enc x, B.enc y] H H (v x y)) : AnsOk P w0 f (sp2 A B φ v) := by
  intro l ψ u e hψ k H
  unfold sp2 at e
  split at e
  · simp only [Option.bind_eq_some_iff] at e
    obtain ⟨x, hx, y, hy, e⟩ := e
    cases e
    exact (h x y hψ k H).weakL ⟨_, _, rfl, A.ok _ _ hx, _, _, rfl, B.ok _ _ hy, rfl⟩
  · cases e
theorem sp3_ok {φ : α → β → γ → Prop} {v : α → β → γ → AV} (h : ∀ x y z, φ x y z → ∀ k H, CallAt P w0 k f [A.enc x, B.enc y, C.enc z] H H (v x y z)) : AnsOk P w0 f (sp3 A B C φ v) := by
  intro l ψ u e hψ k H
  unfold sp3 at e
  split at e
  · simp only [Option.bind_eq_some_iff] at e
    obtain ⟨x, hx, y, hy, z, hz, e⟩ := e
    cases e
    exact (h x y z hψ k H).weakL ⟨_, _, rfl, A.ok _ _ hx, _, _, rfl, B.ok _ _ hy, _, _, rfl, C.ok _ _ hz, rfl⟩
  · cases e
theorem sp4_ok {φ : α → β → γ → δ → Prop} {v : α → β → γ → δ → AV} (h : ∀ x y z o, φ x y z o → ∀ k H, CallAt P w0 k f [A.enc x, B.enc y, C.enc z, D.enc o] H H (v x y z o)) : AnsOk P w0 f (sp4 A B C D φ v) := by
  intro l ψ u e hψ k H
  unfold sp4 at e
  split at e
  · simp only [Option.bind_eq_some_iff] at e
    obtain ⟨x, hx, y, hy, z, hz, o, ho, e⟩ := e
    cases e
    exact (h x y z o hψ k H).weakL ⟨_, _, rfl, A.ok _ _ hx, _, _, rfl, B.ok _ _ hy, _, _, rfl, C.ok _ _ hz, _, _, rfl, D.ok _ _ ho, rfl⟩
  · cases e
end

def dI : Dec Int where
  dec := fun a => match a with
    | .raw (.int .i64 n) => some n
    | _ => none
  enc := .int .i64
  ok := fun a x h => by
    split at h
    · cases h
      exact Weak.refl _
    · cases h
def dC : Dec Int where
  dec := fun a => match a with
    | .raw (.int .u8 n) => some n
    | _ => none
  enc := .int .u8
  ok := fun a x h => by
    split at h
    · cases h
      exact Weak.refl _
    · cases h
def dB : Dec Bool where
  dec := fun a => match a with
    | .raw (.bool n) => some n
    | _ => none
  enc := .bool
  ok := fun a x h => by
    split at h
    · cases h
      exact Weak.refl _
    · cases h
def dS : Dec ByteArray where
  dec := fun a => match a with
    | .raw (.string n) => some n
    | _ => none
  enc := .str
  ok := fun a x h => by
    split at h
    · cases h
      exact Weak.refl _
    · cases h
@[go_sem] theorem dI_at {n : Int} : dI.dec (.raw (.int .i64 n)) = some n := rfl
@[go_sem] theorem dC_at {n : Int} : dC.dec (.raw (.int .u8 n)) = some n := rfl
@[go_sem] theorem dB_at {n : Bool} : dB.dec (.raw (.bool n)) = some n := rfl
@[go_sem] theorem dS_at {n : ByteArray} : dS.dec (.raw (.string n)) = some n := rfl
end Go.Proofs.YtkdendaohlnlcaaGreat.Av

/- Expressions as plain data, and how they lie in memory. No condition. -/
namespace Go.Proofs.YtkdendaohlnlcaaGreat.Av
set_option linter.unusedVariables false
set_option linter.unusedSimpArgs false
set_option maxRecDepth 4000
set_option maxHeartbeats 1000000

inductive E where
  | mk (kind id : Int) (kids : List E)
namespace E
def kind : E → Int | mk k _ _ => k
def id : E → Int | mk _ i _ => i
def kids : E → List E | mk _ _ ks => ks
end E
mutual
def E.cells : E → List AV
  | .mk k i ks => [.int .i64 k, .int .i64 i, .list .none (E.cellsL ks)]
def E.cellsL : List E → List (List AV)
  | [] => []
  | e :: es => e.cells :: E.cellsL es
end
theorem E.cellsL_eq : ∀ l : List E, E.cellsL l = l.map E.cells
  | [] => by simp [E.cellsL]
  | e :: es => by simp [E.cellsL, E.cellsL_eq es]
theorem E.cells_eq (e : E) : e.cells = [.int .i64 e.kind, .int .i64 e.id, .list .none (e.kids.map E.cells)] := by
  cases e
  simp [E.cells, E.kind, E.id, E.kids, E.cellsL_eq]
theorem E.cells_length (e : E) : e.cells.length = 3 := by rw [E.cells_eq]; rfl
abbrev E.av (e : E) : AV := .agg [.int .i64 e.kind, .int .i64 e.id, .list .none (e.kids.map E.cells)]

mutual
def toE : List AV → Option E
  | [.raw (.int .i64 k), .raw (.int .i64 i), .list _ xs] => match toEL xs with
    | some ks => some (.mk k i ks)
    | none => none
  | _ => none
def toEL : List (List AV) → Option (List E)
  | [] => some []
  | x :: xs => match toE x, toEL xs with
    | some e, some es => some (e :: es)
    | _, _ => none
end
mutual
theorem toE_cells : ∀ e : E, toE e.cells = some e
  | .mk k i ks => by simp only [E.cells, toE, toEL_cells ks]
theorem toEL_cells : ∀ l : List E, toEL (E.cellsL l) = some l
  | [] => by simp [E.cellsL, toEL]
  | e :: es => by simp only [E.cellsL, toEL, toE_cells e, toEL_cells es]
end
@[go_sem] theorem toE_at (e : E) (t : Tok) : toE [.raw (.int .i64 e.kind), .raw (.int .i64 e.id), .list t (e.kids.map E.cells)] = some e := by
  cases e with
  | mk k i ks => simp only [E.kind, E.id, E.kids, toE, ← E.cellsL_eq, toEL_cells]
@[go_sem] theorem toEL_at (l : List E) : toEL (l.map E.cells) = some l := by rw [← E.cellsL_eq, toEL_cells]

theorem toE_length : ∀ {c : List AV} {e : E}, toE c = some e → c.length = 3 := by
  intro c e h
  unfold toE at h
  split at h
  · rfl
  · cases h
theorem toEL_length : ∀ {xs : List (List AV)} {es : List E}, toEL xs = some es → xs.length = es.length
  | [], es, h => by simp only [toEL, Option.some.injEq] at h; subst h; rfl
  | x :: xs, es, h => by
    simp only [toEL] at h
    split at h <;> cases h
    rename_i e es h1 h2
    simp [toEL_length h2]
theorem toE_inv {c : List AV} {e : E} (h : toE c = some e) : ∃ t xs, c = [.raw (.int .i64 e.kind), .raw (.int .i64 e.id), .list t xs] ∧ toEL xs = some e.kids := by
  unfold toE at h
  split at h
  · split at h <;> cases h
    rename_i ks hks
    exact ⟨_, _, rfl, hks⟩
  · cases h
theorem toEL_inv {xs : List (List AV)} {e : E} {es : List E} (h : toEL xs = some (e :: es)) : ∃ y ys, xs = y :: ys ∧ toE y = some e ∧ toEL ys = some es := by
  cases xs with
  | nil => simp [toEL] at h
  | cons x xs =>
    simp only [toEL] at h
    split at h <;> cases h
    exact ⟨_, _, rfl, by assumption, by assumption⟩
mutual
theorem toE_rep {G : Gh} : ∀ (e : E) (c : List AV), toE c = some e → ∀ V, RepL G c V → RepL G e.cells V
  | .mk k i ks, c, h, V, hr => by
    obtain ⟨t, xs, rfl, hks⟩ := toE_inv h
    simp only [E.kind, E.id, E.kids] at hks hr
    simp only [E.cells, RepL] at hr ⊢
    obtain ⟨a, as1, h1, ha, b, as2, h2, hb, c, as3, h3, hc, h4⟩ := hr
    refine ⟨a, as1, h1, ha, b, as2, h2, hb, c, as3, h3, ?_, h4⟩
    simp only [Rep] at hc ⊢
    obtain ⟨A, n, cp, e1, e2, e3, e4, e5, ad, e6, e7⟩ := hc
    have hl := toEL_length hks
    have hl2 : (E.cellsL ks).length = ks.length := by simp [E.cellsL_eq]
    refine ⟨A, n, cp, e1, by omega, e3, trivial, ⟨3, ?_⟩, ad, fun hne => e6 ?_, toEL_rep ks xs hks ad 0 e7⟩
    · rw [E.cellsL_eq]
      intro x hx
      obtain ⟨y, _, rfl⟩ := List.mem_map.1 hx
      exact y.cells_length
    · intro hx
      rw [hx] at hl
      exact hne (List.length_eq_zero_iff.1 (by rw [hl2, ← hl]; rfl))
theorem toEL_rep {G : Gh} : ∀ (es : List E) (xs : List (List AV)), toEL xs = some es → ∀ ad k, RepE G ad k xs → RepE G ad k (E.cellsL es)
  | [], xs, h, ad, k, hr => by simp [E.cellsL, RepE]
  | e :: es, xs, h, ad, k, hr => by
    obtain ⟨y, ys, rfl, h1, h2⟩ := toEL_inv h
    simp only [E.cellsL, RepE] at hr ⊢
    have hx := toE_length h1
    obtain ⟨vs, r, g⟩ := hr.1.values
    refine ⟨RepC_of_list _ _ _ (toE_rep e y h1 vs r) g, ?_⟩
    rw [E.cells_length, ← hx]
    exact toEL_rep es ys h2 ad _ hr.2
end
theorem toE_weak {c : List AV} {e : E} (h : toE c = some e) : Weak (.agg c) e.av := fun G V hr => by
  simp only [Rep] at hr ⊢
  obtain ⟨cs, h1, h2⟩ := hr
  refine ⟨cs, h1, ?_⟩
  rw [← E.cells_eq]
  exact toE_rep e c h _ h2
/-- An expression, as an argument. -/
def dE : Dec E where
  dec := fun a => match a with
    | .agg c => toE c
    | _ => none
  enc := E.av
  ok := fun a x h => by
    split at h
    · exact toE_weak h
    · cases h
@[go_sem] theorem dE_at {c : List AV} : dE.dec (.agg c) = toE c := rfl
end Go.Proofs.YtkdendaohlnlcaaGreat.Av

/- What the functions of the reference of layer 2 answer. No condition. -/
namespace Go.Proofs.YtkdendaohlnlcaaGreat.Av
set_option linter.unusedVariables false
set_option linter.unusedSimpArgs false
set_option maxRecDepth 4000
set_option maxHeartbeats 1000000
variable {w0 : Base} {k : List Nat} {H : Hp}

mutual
def E.sz : E → Nat
  | .mk _ _ ks => 1 + E.szL ks
def E.szL : List E → Nat
  | [] => 0
  | e :: es => e.sz + E.szL es
end
mutual
def E.dp : E → Nat
  | .mk _ _ ks => 1 + E.dpL ks
def E.dpL : List E → Nat
  | [] => 0
  | e :: es => max e.dp (E.dpL es)
end
def E.term (e : E) : Bool := e.kind == 1 || e.kind == 2

mutual
def E.ok : E → Prop
  | .mk _ _ ks => (ks.length : Int) ≤ 9223372036854775807 ∧ E.okL ks
def E.okL : List E → Prop
  | [] => True
  | e :: es => e.ok ∧ E.okL es
end
theorem E.okL_mem : ∀ (l : List E), E.okL l → ∀ x ∈ l, x.ok
  | e :: es, h, x, hx => by
    simp only [E.okL] at h
    rcases List.mem_cons.1 hx with rfl | hx
    · exact h.1
    · exact E.okL_mem es h.2 x hx
theorem E.ok_len {e : E} (h : e.ok) : (e.kids.length : Int) ≤ 9223372036854775807 := by cases e; exact h.1
theorem E.ok_kid {e : E} (h : e.ok) {i : Nat} {x : E} (hx : e.kids[i]? = some x) : x.ok := by
  cases e
  exact E.okL_mem _ h.2 x (List.mem_of_getElem? hx)
/-- What a kind asks: the greatest number, how many kids at least and at most, and whether these are terms. -/
def E.want (k : Int) : Option (Int × Nat × Nat × Bool) :=
  if k = 1 then some (63, 0, 0, true) else if k = 2 ∨ k = 3 then some (99, 0, 4, true) else if k = 4 then some (0, 2, 2, true) else if k = 5 then some (0, 1, 1, false)
  else if k = 6 ∨ k = 8 ∨ k = 9 then some (0, 2, 2, false) else if k = 7 ∨ k = 10 then some (63, 1, 1, false) else none
/-- Is the node by itself as it may be? -/
def E.loc (e : E) : Bool := match E.want e.kind with
  | some (mx, l, m, t) => decide (0 ≤ e.id) && decide (e.id ≤ mx) && decide (l ≤ e.kids.length) && decide (e.kids.length ≤ m) && e.kids.all fun x => x.term == t
  | none => false
mutual
def E.sh : E → Bool
  | .mk k i ks => E.loc (.mk k i ks) && E.shL ks
def E.shL : List E → Bool
  | [] => true
  | e :: es => e.sh && E.shL es
end
theorem E.shL_eq : ∀ l : List E, E.shL l = l.all E.sh
  | [] => rfl
  | e :: es => by simp [E.shL, E.shL_eq es]
theorem E.sh_eq (e : E) : e.sh = (e.loc && e.kids.all E.sh) := by cases e; simp [E.sh, E.kids, E.shL_eq]
theorem all_and (p q : E → Bool) : ∀ l : List E, (l.all fun x => p x && q x) = (l.all p && l.all q)
  | [] => rfl
  | e :: es => by
    simp only [List.all_cons, all_and p q es]
    cases p e <;> cases q e <;> cases es.all p <;> cases es.all q <;> rfl
theorem E.sh_all (e : E) : e.sh = match E.want e.kind with
    | some (mx, l, m, t) => decide (0 ≤ e.id) && decide (e.id ≤ mx) && (decide ((l : Int) ≤ e.kids.length) && decide ((e.kids.length : Int) ≤ m) && e.kids.all fun x => x.term == t && x.sh)
    | none => false := by
  rw [E.sh_eq]
  unfold E.loc
  split
  · rw [all_and]
    simp only [Int.ofNat_le, Bool.and_assoc]
  · rfl
theorem E.sz_eq (e : E) : e.sz = 1 + E.szL e.kids := by cases e; simp [E.sz, E.kids]
theorem E.dp_eq (e : E) : e.dp = 1 + E.dpL e.kids := by cases e; simp [E.dp, E.kids]
theorem E.sz_pos (e : E) : 1 ≤ e.sz := by rw [E.sz_eq]; omega
theorem E.dp_pos (e : E) : 1 ≤ e.dp := by rw [E.dp_eq]; omega

theorem E.szL_take : ∀ (l : List E) (i : Nat) (x : E), l[i]? = some x → E.szL (l.take (i + 1)) = E.szL (l.take i) + x.sz
  | [], i, x, h => by simp at h
  | y :: l, 0, x, h => by simp at h; subst h; simp [E.szL]
  | y :: l, i + 1, x, h => by
    simp only [List.getElem?_cons_succ] at h
    simp only [List.take_succ_cons, E.szL, E.szL_take l i x h]
    omega
theorem E.dpL_take : ∀ (l : List E) (i : Nat) (x : E), l[i]? = some x → E.dpL (l.take (i + 1)) = max (E.dpL (l.take i)) x.dp
  | [], i, x, h => by simp at h
  | y :: l, 0, x, h => by simp at h; subst h; simp [E.dpL]
  | y :: l, i + 1, x, h => by
    simp only [List.getElem?_cons_succ] at h
    simp only [List.take_succ_cons, E.dpL, E.dpL_take l i x h]
    omega
theorem E.dpL_le : ∀ (l : List E) (i : Nat), E.dpL (l.take i) ≤ E.dpL l
  | l, 0 => by simp [E.dpL]
  | [], i + 1 => by simp
  | y :: l, i + 1 => by
    have := E.dpL_le l i
    simp only [List.take_succ_cons, E.dpL]
    omega
theorem E.szL_ge : ∀ (l : List E) (i : Nat), i ≤ l.length → i ≤ E.szL (l.take i)
  | l, 0, h => by omega
  | [], i + 1, h => by simp at h
  | y :: l, i + 1, h => by
    simp only [List.length_cons] at h
    have := E.szL_ge l i (by omega)
    have := y.sz_pos
    simp only [List.take_succ_cons, E.szL]
    omega
theorem E.szL_le : ∀ (l : List E) (i : Nat), E.szL (l.take i) ≤ E.szL l
  | l, 0 => by simp [E.szL]
  | [], i + 1 => by simp
  | y :: l, i + 1 => by
    have := E.szL_le l i
    simp only [List.take_succ_cons, E.szL]
    omega
theorem E.kid_sz {e : E} {i : Nat} {x : E} (hx : e.kids[i]? = some x) : x.sz < e.sz := by
  have := E.szL_take e.kids i x hx
  have := E.szL_le e.kids (i + 1)
  have := e.sz_eq
  omega
theorem sfx2 (a b : Nat) (k : List Nat) : k <:+ a :: b :: k := ⟨[a, b], rfl⟩
theorem sfx1 (a : Nat) (k : List Nat) : k <:+ a :: k := ⟨[a], rfl⟩
attribute [go_sem] Value.oneCell'
theorem E.kid (e : E) {i : Nat} (h : i < e.kids.length) : ∃ x, e.kids[i]? = some x ∧ (e.kids.map E.cells).getD i [] = [.int .i64 x.kind, .int .i64 x.id, .list .none (x.kids.map E.cells)] :=
  ⟨e.kids[i], by simp [h], by rw [← E.cells_eq]; simp [List.getD_eq_getElem?_getD, h]⟩

theorem term_call (e : E) : CallAt Tryz.prog w0 k 48 [e.av] H H (.bool e.term) := by
  refine callAt tabOk specOk_none mixed Tryz.func48 rfl rfl Tryz.results48 Tryz.ntmps48 (by simp) [] ?_
  intro hfr t hl ht
  simp only [At, Nat.reduceAdd, List.cons_append, List.nil_append] at ht
  simp (config := {contextual := true, maxSteps := 5000000}) only [go_sem, false_and, Nat.reduceAdd, Nat.reduceLT, Nat.reduceBEq, Nat.reduceSub, Nat.reduceMul, Nat.reduceLeDiff, Int.reduceToNat, Nat.reduceEqDiff, Nat.reduceMod, ht, hl]
  simp +contextual [E.term] <;> grind

def specSz (N : Nat) : Spec := Spec.no.add 77 (sp2 dE dI (fun e m => 1 ≤ m ∧ m ≤ 1001 ∧ e.sz < N) fun e m => .int .i64 (min (e.sz : Int) m))
theorem szUp_step (N : Nat) (hS : SpecOk Tryz.prog w0 (specSz N)) (e : E) (m : Int) (h1 : 1 ≤ m) (h2 : m ≤ 1001) (h3 : e.sz < N + 1) : CallAt Tryz.prog w0 k 77 [e.av, .int .i64 m] H H (.int .i64 (min (e.sz : Int) m)) := by
  refine callAt tabOk hS mixed Tryz.func77 rfl rfl Tryz.results77 Tryz.ntmps77 (by simp) [] ?_
  intro hfr t hl ht
  simp only [At, Nat.reduceAdd, List.cons_append, List.nil_append] at ht
  simp (config := {contextual := true, maxSteps := 5000000}) only [go_sem, false_and, Nat.reduceAdd, Nat.reduceLT, Nat.reduceBEq, Nat.reduceSub, Nat.reduceMul, Nat.reduceLeDiff, Int.reduceToNat, Nat.reduceEqDiff, Nat.reduceMod, ht, hl]
  refine loop_inv tabOk hS mixed [] (fun j x => ∃ i : Nat, x.tmps.length = 32 ∧ x.tmps.getD 1 AV.undef = .int .i64 m ∧ x.tmps.getD 5 AV.undef = .int .i64 (min (1 + E.szL (e.kids.take i) : Nat) m) ∧
    x.tmps.getD 9 AV.undef = .list .none (e.kids.map E.cells) ∧ x.tmps.getD 10 AV.undef = .int .i64 e.kids.length ∧ x.tmps.getD 11 AV.undef = .int .i64 i ∧ H.Le x.H ∧ i + j = e.kids.length) e.kids.length ⟨0, ?_⟩ ?_
  · simp (config := {contextual := true, maxSteps := 5000000}) only [go_sem, false_and, Nat.reduceAdd, Nat.reduceLT, Nat.reduceBEq, Nat.reduceSub, Nat.reduceMul, Nat.reduceLeDiff, Int.reduceToNat, Nat.reduceEqDiff, Nat.reduceMod, ht, hl]
    simp [E.szL]
    omega
  · rintro j ⟨t, n, H'⟩ ⟨i, hl, h1', h5, h9, h10, h11, hH, hij⟩
    simp only at hl h1' h5 h9 h10 h11 hH
    by_cases hi : i < e.kids.length
    · have hd : decide ((i : Int) < (e.kids.length : Int)) = true := by simp [hi]
      obtain ⟨x, hx, he⟩ := E.kid e hi
      simp (config := {contextual := true, maxSteps := 5000000}) only [go_sem, false_and, Nat.reduceAdd, Nat.reduceLT, Nat.reduceBEq, Nat.reduceSub, Nat.reduceMul, Nat.reduceLeDiff, Int.reduceToNat, Nat.reduceEqDiff, Nat.reduceMod, he, toE_at, specSz, h1', h5, h9, h10, h11, hl, hd]
      have hn : H ⟨3, 2 :: (n + 1) :: k, 33⟩ = none := hfr _ (sfx2 _ _ _)
      have hle : ∀ a, H.Le (H'.upd ⟨3, 2 :: (n + 1) :: k, 33⟩ a) := fun a => Hp.le_upd hH hn
      have e1 := E.szL_take e.kids i x hx
      have e2 := E.szL_ge e.kids i (by omega)
      have e3 := E.szL_le e.kids (i + 1)
      have e4 := e.sz_eq
      have e5 := x.sz_pos
      refine ⟨⟨by omega, by omega⟩, fun hc => ⟨?_, hle _⟩, fun hc => ⟨⟨?_, ?_, ?_⟩, j - 1, by omega, i + 1, ?_, ?_, hle _, by omega⟩⟩
      all_goals simp only [decide_eq_true_eq, decide_eq_false_iff_not] at hc
      · omega
      · rw [wrap_i64] <;> omega
      · rw [wrap_i64] <;> omega
      · omega
      · rw [wrap_i64 (n := m - _) (by omega) (by omega), wrap_i64] <;> omega
      · rw [wrap_i64] <;> omega
    · have hd : decide ((i : Int) < (e.kids.length : Int)) = false := by simp; omega
      simp (config := {contextual := true, maxSteps := 5000000}) only [go_sem, false_and, Nat.reduceAdd, Nat.reduceLT, Nat.reduceBEq, Nat.reduceSub, Nat.reduceMul, Nat.reduceLeDiff, Int.reduceToNat, Nat.reduceEqDiff, Nat.reduceMod, h1', h5, h9, h10, h11, hl, hd]
      have e4 := e.sz_eq
      have e6 : e.kids.take i = e.kids := List.take_of_length_le (by omega)
      rw [e6]
      refine ⟨fun hc => ⟨?_, hH⟩, fun hc => ⟨?_, hH⟩⟩ <;> simp only [decide_eq_true_eq, decide_eq_false_iff_not] at hc <;> omega
theorem specSz_ok : ∀ N, SpecOk Tryz.prog w0 (specSz N)
  | 0 => Spec.no_ok.add (sp2_ok fun e m h => by omega)
  | N + 1 => Spec.no_ok.add (sp2_ok fun e m h k H => szUp_step N (specSz_ok N) e m h.1 h.2.1 h.2.2)

def specDp (N : Nat) : Spec := Spec.no.add 78 (sp2 dE dI (fun e m => 1 ≤ m ∧ m ≤ 101 ∧ e.ok ∧ e.sz < N) fun e m => .int .i64 (min (e.dp : Int) m))
theorem dpUp_step (N : Nat) (hS : SpecOk Tryz.prog w0 (specDp N)) (e : E) (m : Int) (h1 : 1 ≤ m) (h2 : m ≤ 101) (hok : e.ok) (h3 : e.sz < N + 1) : CallAt Tryz.prog w0 k 78 [e.av, .int .i64 m] H H (.int .i64 (min (e.dp : Int) m)) := by
  refine callAt tabOk hS mixed Tryz.func78 rfl rfl Tryz.results78 Tryz.ntmps78 (by simp) [] ?_
  intro hfr t hl ht
  simp only [At, Nat.reduceAdd, List.cons_append, List.nil_append] at ht
  simp (config := {contextual := true, maxSteps := 5000000}) only [go_sem, false_and, Nat.reduceAdd, Nat.reduceLT, Nat.reduceBEq, Nat.reduceSub, Nat.reduceMul, Nat.reduceLeDiff, Int.reduceToNat, Nat.reduceEqDiff, Nat.reduceMod, ht, hl]
  have e4 := e.dp_eq
  refine ⟨fun hc => ?_, fun hc => ?_⟩ <;> simp only [decide_eq_true_eq, decide_eq_false_iff_not] at hc
  · omega
  refine loop_inv tabOk hS mixed [] (fun j x => ∃ i : Nat, x.tmps.length = 35 ∧ x.tmps.getD 1 AV.undef = .int .i64 m ∧ x.tmps.getD 5 AV.undef = .int .i64 (E.dpL (e.kids.take i) : Nat) ∧ (E.dpL (e.kids.take i) : Int) < m - 1 ∧
    x.tmps.getD 13 AV.undef = .list .none (e.kids.map E.cells) ∧ x.tmps.getD 14 AV.undef = .int .i64 e.kids.length ∧ x.tmps.getD 15 AV.undef = .int .i64 i ∧ H.Le x.H ∧ i + j = e.kids.length) e.kids.length ⟨0, ?_⟩ ?_
  · simp (config := {contextual := true, maxSteps := 5000000}) only [go_sem, false_and, Nat.reduceAdd, Nat.reduceLT, Nat.reduceBEq, Nat.reduceSub, Nat.reduceMul, Nat.reduceLeDiff, Int.reduceToNat, Nat.reduceEqDiff, Nat.reduceMod, ht, hl]
    simp [E.dpL]
    omega
  · rintro j ⟨t, n, H'⟩ ⟨i, hl, h1', h5, hlt, h13, h14, h15, hH, hij⟩
    simp only at hl h1' h5 h13 h14 h15 hH
    by_cases hi : i < e.kids.length
    · have hd : decide ((i : Int) < (e.kids.length : Int)) = true := by simp [hi]
      have hw : IntKind.i64.wrap (m - 1) = m - 1 := wrap_i64 (by omega) (by omega)
      have hw2 : IntKind.i64.wrap ((i : Int) + 1) = ((i + 1 : Nat) : Int) := by
        have := E.ok_len hok
        rw [wrap_i64] <;> omega
      obtain ⟨x, hx, he⟩ := E.kid e hi
      simp (config := {contextual := true, maxSteps := 5000000}) only [go_sem, false_and, Nat.reduceAdd, Nat.reduceLT, Nat.reduceBEq, Nat.reduceSub, Nat.reduceMul, Nat.reduceLeDiff, Int.reduceToNat, Nat.reduceEqDiff, Nat.reduceMod, he, toE_at, specDp, h1', h5, h13, h14, h15, hl, hd, hw, hw2]
      have hn : H ⟨3, 2 :: (n + 1) :: k, 33⟩ = none := hfr _ (sfx2 _ _ _)
      have hle : ∀ a, H.Le (H'.upd ⟨3, 2 :: (n + 1) :: k, 33⟩ a) := fun a => Hp.le_upd hH hn
      have e1 := E.dpL_take e.kids i x hx
      have e3 := E.dpL_le e.kids (i + 1)
      have e5 := x.dp_pos
      have e6 := E.kid_sz hx
      refine ⟨⟨by omega, by omega⟩, ⟨by omega, by omega, E.ok_kid hok hx, by omega⟩, fun a => ⟨fun b => ⟨?_, hle _⟩, fun b => ⟨j - 1, by omega, i + 1, ?_, ?_, rfl, hle _, by omega⟩⟩, fun a => ⟨fun b => ⟨?_, hle _⟩, fun b => ⟨j - 1, by omega, i + 1, ?_, ?_, rfl, hle _, by omega⟩⟩⟩
      all_goals
        simp only [decide_eq_true_eq, decide_eq_false_iff_not] at a b
        omega
    · have hd : decide ((i : Int) < (e.kids.length : Int)) = false := by simp; omega
      simp (config := {contextual := true, maxSteps := 5000000}) only [go_sem, false_and, Nat.reduceAdd, Nat.reduceLT, Nat.reduceBEq, Nat.reduceSub, Nat.reduceMul, Nat.reduceLeDiff, Int.reduceToNat, Nat.reduceEqDiff, Nat.reduceMod, h1', h5, h13, h14, h15, hl, hd]
      have e6 : e.kids.take i = e.kids := List.take_of_length_le (by omega)
      rw [e6] at hlt ⊢
      refine ⟨?_, hH⟩
      rw [wrap_i64] <;> omega
theorem specDp_ok : ∀ N, SpecOk Tryz.prog w0 (specDp N)
  | 0 => Spec.no_ok.add (sp2_ok fun e m h => by omega)
  | N + 1 => Spec.no_ok.add (sp2_ok fun e m h k H => dpUp_step N (specDp_ok N) e m h.1 h.2.1 h.2.2.1 h.2.2.2)

def specSh (N M : Nat) : Spec :=
  ((Spec.no.add 68 (sp1 dE (fun e => e.sz < N) fun e => .bool e.sh)).add 79 (sp4 dE dI dI dB (fun e _ m _ => m ≤ 99 ∧ e.sz < M) fun e l m t => .bool (decide (l ≤ e.kids.length) && decide (e.kids.length ≤ m) && e.kids.all fun x => x.term == t && x.sh))).add
    48 (sp1 dE (fun _ => True) fun e => .bool e.term)
theorem kids_step (N M : Nat) (hS : SpecOk Tryz.prog w0 (specSh N M)) (e : E) (l m : Int) (ts : Bool) (h1 : m ≤ 99) (h3 : e.sz < N + 1) :
    CallAt Tryz.prog w0 k 79 [e.av, .int .i64 l, .int .i64 m, .bool ts] H H (.bool (decide (l ≤ e.kids.length) && decide (e.kids.length ≤ m) && e.kids.all fun x => x.term == ts && x.sh)) := by
  refine callAt tabOk hS mixed Tryz.func79 rfl rfl Tryz.results79 Tryz.ntmps79 (by simp) [] ?_
  intro hfr t hl ht
  simp only [At, Nat.reduceAdd, List.cons_append, List.nil_append] at ht
  simp (config := {contextual := true, maxSteps := 5000000}) only [go_sem, false_and, Nat.reduceAdd, Nat.reduceLT, Nat.reduceBEq, Nat.reduceSub, Nat.reduceMul, Nat.reduceLeDiff, Int.reduceToNat, Nat.reduceEqDiff, Nat.reduceMod, ht, hl]
  refine ⟨fun a => ⟨fun b => ?_, fun b => ?_⟩, fun a => ?_⟩ <;> simp only [decide_eq_true_eq, decide_eq_false_iff_not] at a
  · simp only [decide_eq_true_eq] at b
    have : decide ((e.kids.length : Int) ≤ m) = false := by simp; omega
    simp [this]
  · simp only [decide_eq_false_iff_not] at b
    have d1 : decide (l ≤ (e.kids.length : Int)) = true := by simp; omega
    have d2 : decide ((e.kids.length : Int) ≤ m) = true := by simp; omega
    simp only [d1, d2, Bool.true_and]
    refine loop_inv tabOk hS mixed [] (fun j x => ∃ i : Nat, x.tmps.length = 40 ∧ x.tmps.getD 3 AV.undef = .bool ts ∧ (∀ i' x, i' < i → e.kids[i']? = some x → (x.term == ts && x.sh) = true) ∧
      x.tmps.getD 24 AV.undef = .list .none (e.kids.map E.cells) ∧ x.tmps.getD 25 AV.undef = .int .i64 e.kids.length ∧ x.tmps.getD 26 AV.undef = .int .i64 i ∧ H.Le x.H ∧ i + j = e.kids.length) e.kids.length ⟨0, ?_⟩ ?_
    · simp (config := {contextual := true, maxSteps := 5000000}) only [go_sem, false_and, Nat.reduceAdd, Nat.reduceLT, Nat.reduceBEq, Nat.reduceSub, Nat.reduceMul, Nat.reduceLeDiff, Int.reduceToNat, Nat.reduceEqDiff, Nat.reduceMod, ht, hl]
      simp
    · rintro j ⟨t, n, H'⟩ ⟨i, hl, h3', hall, h24, h25, h26, hH, hij⟩
      simp only at hl h3' h24 h25 h26 hH
      by_cases hi : i < e.kids.length
      · have hd : decide ((i : Int) < (e.kids.length : Int)) = true := by simp [hi]
        have hw2 : IntKind.i64.wrap ((i : Int) + 1) = ((i + 1 : Nat) : Int) := by rw [wrap_i64] <;> omega
        obtain ⟨x, hx, he⟩ := E.kid e hi
        simp (config := {contextual := true, maxSteps := 5000000}) only [go_sem, false_and, Nat.reduceAdd, Nat.reduceLT, Nat.reduceBEq, Nat.reduceSub, Nat.reduceMul, Nat.reduceLeDiff, Int.reduceToNat, Nat.reduceEqDiff, Nat.reduceMod, he, toE_at, specSh, h3', h24, h25, h26, hl, hd, hw2]
        have hn : H ⟨3, 2 :: (n + 1) :: k, 33⟩ = none := hfr _ (sfx2 _ _ _)
        have hle : ∀ a, H.Le (H'.upd ⟨3, 2 :: (n + 1) :: k, 33⟩ a) := fun a => Hp.le_upd hH hn
        have e6 := E.kid_sz hx
        have bad : (x.term == ts && x.sh) = false → (false = e.kids.all fun x => x.term == ts && x.sh) := fun h => by
          symm
          rw [List.all_eq_false]
          exact ⟨x, List.mem_of_getElem? hx, by simp [h]⟩
        refine ⟨⟨by omega, by omega⟩, fun a => ⟨by omega, fun b => ⟨bad (by simp_all), hle _⟩, fun b => ⟨j - 1, by omega, i + 1, fun i' y hi' hy => ?_, rfl, hle _, by omega⟩⟩, fun a => ⟨bad (by simp_all), hle _⟩⟩
        by_cases e : i' = i
        · subst e
          rw [hx] at hy
          cases hy
          simp_all
        · exact hall i' y (by omega) hy
      · have hd : decide ((i : Int) < (e.kids.length : Int)) = false := by simp; omega
        simp (config := {contextual := true, maxSteps := 5000000}) only [go_sem, false_and, Nat.reduceAdd, Nat.reduceLT, Nat.reduceBEq, Nat.reduceSub, Nat.reduceMul, Nat.reduceLeDiff, Int.reduceToNat, Nat.reduceEqDiff, Nat.reduceMod, h3', h24, h25, h26, hl, hd]
        refine ⟨?_, hH⟩
        symm
        rw [List.all_eq_true]
        intro x hx
        obtain ⟨i', hi', hx'⟩ := List.getElem_of_mem hx
        exact hall i' x (by omega) (by rw [← hx']; simp)
  · have : decide (l ≤ (e.kids.length : Int)) = false := by simp; omega
    simp [this]
theorem shaped_step (N M : Nat) (hS : SpecOk Tryz.prog w0 (specSh N M)) (e : E) (h3 : e.sz < M) : CallAt Tryz.prog w0 k 68 [e.av] H H (.bool e.sh) := by
  refine callAt tabOk hS mixed Tryz.func68 rfl rfl Tryz.results68 Tryz.ntmps68 (by simp) [] ?_
  intro hfr t hl ht
  simp only [At, Nat.reduceAdd, List.cons_append, List.nil_append] at ht
  simp (config := {contextual := true, maxSteps := 5000000}) only [go_sem, false_and, Nat.reduceAdd, Nat.reduceLT, Nat.reduceBEq, Nat.reduceSub, Nat.reduceMul, Nat.reduceLeDiff, Int.reduceToNat, Nat.reduceEqDiff, Nat.reduceMod, ht, hl, toE_at, specSh]
  have hneg : e.id < 0 → e.sh = false := fun h => by
    have d : decide (0 ≤ e.id) = false := by simp; omega
    rw [E.sh_all, d]
    split <;> simp
  refine ⟨fun a => (hneg (by simpa using a)).symm, ?_⟩
  rw [E.sh_all]
  simp only [E.want]
  (repeat' (first | apply And.intro | intro _)) <;> simp_all <;> omega
theorem specSh_ok : ∀ N, SpecOk Tryz.prog w0 (specSh N N)
  | 0 => ((Spec.no_ok.add (sp1_ok fun e h => by omega)).add (sp4_ok fun e l m t h => by omega)).add (sp1_ok fun e _ k H => term_call e)
  | N + 1 => by
    have hk : AnsOk Tryz.prog w0 79 _ := sp4_ok (A := dE) (B := dI) (C := dI) (D := dB) (φ := fun e _ m _ => m ≤ 99 ∧ e.sz < N + 1) fun e l m t h k H => kids_step N N (specSh_ok N) e l m t h.1 h.2
    have h0 : AnsOk Tryz.prog w0 68 _ := sp1_ok (A := dE) (φ := fun e => e.sz < N) (v := fun e => .bool e.sh) fun e h k H => (specSh_ok N) _ [e.av] (e.sz < N) (.bool e.sh) (by simp (config := {contextual := true, maxSteps := 5000000}) only [go_sem, false_and, Nat.reduceAdd, Nat.reduceLT, Nat.reduceBEq, Nat.reduceSub, Nat.reduceMul, Nat.reduceLeDiff, Int.reduceToNat, Nat.reduceEqDiff, Nat.reduceMod, specSh, toE_at]) h k H
    have h1 : SpecOk Tryz.prog w0 (specSh N (N + 1)) := ((Spec.no_ok.add h0).add hk).add (sp1_ok fun e _ k H => term_call e)
    exact ((Spec.no_ok.add (sp1_ok fun e h k H => shaped_step N (N + 1) h1 e h)).add hk).add (sp1_ok fun e _ k H => term_call e)

/-- The functions of this layer, with what they need. -/
def E.right (e : E) : Int := if 1000 < e.sz then 20 else if 100 < e.dp then 21 else if e.sh then 0 else 22
def E.wantF (e : E) : Int := if e.right = 0 then (if e.term then 40 else 0) else e.right
def E.written (e : E) : Int := if e.wantF = 0 then (if 300 < e.sz then 20 else if 30 < e.dp then 21 else 0) else e.wantF
def spec02a : Spec := ((Spec.no.add 77 (sp2 dE dI (fun e m => 1 ≤ m ∧ m ≤ 1001) fun e m => .int .i64 (min (e.sz : Int) m))).add
  78 (sp2 dE dI (fun e m => 1 ≤ m ∧ m ≤ 101 ∧ e.ok) fun e m => .int .i64 (min (e.dp : Int) m))).add
  68 (sp1 dE (fun _ => True) fun e => .bool e.sh)
theorem spec02a_ok : SpecOk Tryz.prog w0 spec02a :=
  ((Spec.no_ok.add (sp2_ok fun e m h k H => szUp_step e.sz (specSz_ok _) e m h.1 h.2 (Nat.lt_succ_self _))).add (sp2_ok fun e m h k H => dpUp_step e.sz (specDp_ok _) e m h.1 h.2.1 h.2.2 (Nat.lt_succ_self _))).add
    (sp1_ok fun e _ k H => specSh_ok (e.sz + 1) _ [e.av] (e.sz < e.sz + 1) (.bool e.sh) (by simp (config := {contextual := true, maxSteps := 5000000}) only [go_sem, false_and, Nat.reduceAdd, Nat.reduceLT, Nat.reduceBEq, Nat.reduceSub, Nat.reduceMul, Nat.reduceLeDiff, Int.reduceToNat, Nat.reduceEqDiff, Nat.reduceMod, specSh, toE_at]) (Nat.lt_succ_self _) k H)
theorem size_call (e : E) : CallAt Tryz.prog w0 k 66 [e.av] H H (.int .i64 (min (e.sz : Int) 1001)) := by
  refine callAt tabOk spec02a_ok mixed Tryz.func66 rfl rfl Tryz.results66 Tryz.ntmps66 (by simp) [] ?_
  intro hfr t hl ht
  simp only [At, Nat.reduceAdd, List.cons_append, List.nil_append] at ht
  simp (config := {contextual := true, maxSteps := 5000000}) only [go_sem, false_and, Nat.reduceAdd, Nat.reduceLT, Nat.reduceBEq, Nat.reduceSub, Nat.reduceMul, Nat.reduceLeDiff, Int.reduceToNat, Nat.reduceEqDiff, Nat.reduceMod, ht, hl, spec02a]
  simp
theorem depth_call (e : E) (hok : e.ok) : CallAt Tryz.prog w0 k 67 [e.av] H H (.int .i64 (min (e.dp : Int) 101)) := by
  refine callAt tabOk spec02a_ok mixed Tryz.func67 rfl rfl Tryz.results67 Tryz.ntmps67 (by simp) [] ?_
  intro hfr t hl ht
  simp only [At, Nat.reduceAdd, List.cons_append, List.nil_append] at ht
  simp (config := {contextual := true, maxSteps := 5000000}) only [go_sem, false_and, Nat.reduceAdd, Nat.reduceLT, Nat.reduceBEq, Nat.reduceSub, Nat.reduceMul, Nat.reduceLeDiff, Int.reduceToNat, Nat.reduceEqDiff, Nat.reduceMod, ht, hl, spec02a]
  simp [hok]
def spec02b : Spec := ((spec02a.add 66 (sp1 dE (fun _ => True) fun e => .int .i64 (min (e.sz : Int) 1001))).add
  67 (sp1 dE (fun e => e.ok) fun e => .int .i64 (min (e.dp : Int) 101))).add
  48 (sp1 dE (fun _ => True) fun e => .bool e.term)
theorem spec02b_ok : SpecOk Tryz.prog w0 spec02b := ((spec02a_ok.add (sp1_ok fun e _ k H => size_call e)).add (sp1_ok fun e h k H => depth_call e h)).add (sp1_ok fun e _ k H => term_call e)
theorem right02_call (e : E) (hok : e.ok) : CallAt Tryz.prog w0 k 47 [e.av] H H (.int .i64 e.right) := by
  refine callAt tabOk spec02b_ok mixed Tryz.func47 rfl rfl Tryz.results47 Tryz.ntmps47 (by simp) [] ?_
  intro hfr t hl ht
  simp only [At, Nat.reduceAdd, List.cons_append, List.nil_append] at ht
  simp (config := {contextual := true, maxSteps := 5000000}) only [go_sem, false_and, Nat.reduceAdd, Nat.reduceLT, Nat.reduceBEq, Nat.reduceSub, Nat.reduceMul, Nat.reduceLeDiff, Int.reduceToNat, Nat.reduceEqDiff, Nat.reduceMod, ht, hl, spec02b, spec02a]
  unfold E.right
  (repeat' (first | apply And.intro | intro _)) <;> simp_all <;> omega
end Go.Proofs.YtkdendaohlnlcaaGreat.Av

/- Sets of numbers as bits; free variables; what would be caught. Plain. No condition. -/
namespace Go.Proofs.YtkdendaohlnlcaaGreat.Av
set_option linter.unusedVariables false
set_option linter.unusedSimpArgs false
set_option maxRecDepth 4000
set_option maxHeartbeats 1000000
def bitv (n : Int) : Nat := if 0 ≤ n ∧ n ≤ 63 then 2 ^ n.toNat else 0
def hasB (s : Nat) (n : Int) : Bool := decide (0 ≤ n ∧ n ≤ 63) && s.testBit n.toNat
/-- A set without a number. -/
def clr (s : Nat) (n : Int) : Nat := s ^^^ (s &&& bitv n)
theorem bitv_bit (n : Int) (j : Nat) : (bitv n).testBit j = (decide (0 ≤ n ∧ n ≤ 63) && decide ((j : Int) = n)) := by
  unfold bitv
  by_cases h : 0 ≤ n ∧ n ≤ 63
  · rw [if_pos h, Nat.testBit_two_pow]
    simp only [h, and_self, decide_true, Bool.true_and, decide_eq_decide]
    omega
  · rw [if_neg h]
    simp [h]
theorem bitv_lt (n : Int) : bitv n < 18446744073709551616 := by
  unfold bitv
  split
  · rename_i h
    have : 2 ^ n.toNat < 2 ^ 64 := Nat.pow_lt_pow_right (by omega) (by omega)
    exact this
  · omega
theorem hasB_bit (s : Nat) {n : Int} (h : 0 ≤ n ∧ n ≤ 63) : hasB s n = s.testBit n.toNat := by simp [hasB, h]
theorem hasB_out (s : Nat) {n : Int} (h : ¬ (0 ≤ n ∧ n ≤ 63)) : hasB s n = false := by simp [hasB, h]
theorem clr_bit (s : Nat) (n : Int) (j : Nat) : (clr s n).testBit j = (s.testBit j && !(bitv n).testBit j) := by
  unfold clr
  rw [Nat.testBit_xor, Nat.testBit_and]
  cases s.testBit j <;> cases (bitv n).testBit j <;> rfl
theorem bit_out {a : Nat} (h : a < 18446744073709551616) {j : Nat} (hj : 64 ≤ j) : a.testBit j = false := by
  have h2 : (18446744073709551616 : Nat) ≤ 2 ^ j := Nat.pow_le_pow_right (n := 2) (by omega) hj
  exact Nat.testBit_lt_two_pow (Nat.lt_of_lt_of_le h h2)
theorem clr_lt {s : Nat} (h : s < 18446744073709551616) (n : Int) : clr s n < 18446744073709551616 := by
  refine Nat.lt_pow_two_of_testBit (n := 64) _ fun i hi => ?_
  rw [clr_bit, bit_out h hi]
  rfl
theorem or_lt {a b : Nat} (h : a < 18446744073709551616) (g : b < 18446744073709551616) : a ||| b < 18446744073709551616 := Nat.or_lt_two_pow (n := 64) h g
theorem and_lt {a : Nat} (b : Nat) (h : a < 18446744073709551616) : a &&& b < 18446744073709551616 := Nat.lt_of_le_of_lt Nat.and_le_left h
theorem bits_ext {a b : Nat} (ha : a < 18446744073709551616) (hb : b < 18446744073709551616) (h : ∀ j, j < 64 → a.testBit j = b.testBit j) : a = b := by
  refine Nat.eq_of_testBit_eq fun i => ?_
  by_cases hi : i < 64
  · exact h i hi
  · rw [bit_out ha (by omega), bit_out hb (by omega)]
theorem hasB_or (a b : Nat) (n : Int) : hasB (a ||| b) n = (hasB a n || hasB b n) := by
  unfold hasB
  rw [Nat.testBit_or]
  cases decide (0 ≤ n ∧ n ≤ 63) <;> rfl
theorem hasB_bitv (m n : Int) : hasB (bitv m) n = (decide (0 ≤ n ∧ n ≤ 63) && decide (n = m)) := by
  unfold hasB
  rw [bitv_bit]
  by_cases h : 0 ≤ n ∧ n ≤ 63
  · by_cases e : n = m
    · subst e
      simp [h]
      omega
    · have h2 : decide (((n.toNat : Nat) : Int) = m) = false := by simp only [decide_eq_false_iff_not]; omega
      rw [h2]
      simp [e]
  · simp [h]
theorem hasB_clr (a : Nat) (m n : Int) : hasB (clr a m) n = (hasB a n && !hasB (bitv m) n) := by
  unfold hasB
  rw [clr_bit]
  cases decide (0 ≤ n ∧ n ≤ 63) <;> simp
def isQ (k : Int) : Bool := k == 7 || k == 10
mutual
/-- The free variables. -/
def E.fv : E → Nat
  | .mk k i ks => if k = 1 then bitv i else if isQ k = true then clr (E.fvL ks) i else E.fvL ks
def E.fvL : List E → Nat
  | [] => 0
  | e :: es => e.fv ||| E.fvL es
end
mutual
/-- The variables that quantifiers name. -/
def E.bv : E → Nat
  | .mk k i ks => (if isQ k = true then bitv i else 0) ||| E.bvL ks
def E.bvL : List E → Nat
  | [] => 0
  | e :: es => e.bv ||| E.bvL es
end
mutual
/-- The variables that stand there. -/
def E.ov : E → Nat
  | .mk k i ks => if k = 1 then bitv i else E.ovL ks
def E.ovL : List E → Nat
  | [] => 0
  | e :: es => e.ov ||| E.ovL es
end
def E.vs (e : E) : Nat := e.ov ||| e.bv
mutual
/-- Each occurrence of a variable, with what is bound there. -/
def E.occ (b : Nat) : E → List (Int × Nat)
  | .mk k i ks => if k = 1 then [(i, b)] else E.occL (if isQ k = true then b ||| bitv i else b) ks
def E.occL (b : Nat) : List E → List (Int × Nat)
  | [] => []
  | e :: es => e.occ b ++ E.occL b es
end
mutual
/-- What of a set is caught about free occurrences of a variable. -/
def E.cau (own : Nat) (x : Int) : E → Nat
  | .mk k i ks => if k = 1 then 0 else if hasB (E.fv (.mk k i ks)) x = true then (if isQ k = true ∧ hasB own i = true then bitv i else 0) ||| E.cauL own x ks else 0
def E.cauL (own : Nat) (x : Int) : List E → Nat
  | [] => 0
  | e :: es => e.cau own x ||| E.cauL own x es
end
mutual
theorem E.fv_lt : ∀ e : E, e.fv < 18446744073709551616
  | .mk k i ks => by
    rw [E.fv]
    split
    · exact bitv_lt i
    · split
      · exact clr_lt (E.fvL_lt ks) i
      · exact E.fvL_lt ks
theorem E.fvL_lt : ∀ l : List E, E.fvL l < 18446744073709551616
  | [] => by simp [E.fvL]
  | e :: es => by rw [E.fvL]; exact or_lt e.fv_lt (E.fvL_lt es)
end
mutual
theorem E.bv_lt : ∀ e : E, e.bv < 18446744073709551616
  | .mk k i ks => by
    rw [E.bv]
    refine or_lt ?_ (E.bvL_lt ks)
    split
    · exact bitv_lt i
    · omega
theorem E.bvL_lt : ∀ l : List E, E.bvL l < 18446744073709551616
  | [] => by simp [E.bvL]
  | e :: es => by rw [E.bvL]; exact or_lt e.bv_lt (E.bvL_lt es)
end
mutual
theorem E.ov_lt : ∀ e : E, e.ov < 18446744073709551616
  | .mk k i ks => by
    rw [E.ov]
    split
    · exact bitv_lt i
    · exact E.ovL_lt ks
theorem E.ovL_lt : ∀ l : List E, E.ovL l < 18446744073709551616
  | [] => by simp [E.ovL]
  | e :: es => by rw [E.ovL]; exact or_lt e.ov_lt (E.ovL_lt es)
end
theorem E.vs_lt (e : E) : e.vs < 18446744073709551616 := or_lt e.ov_lt e.bv_lt
mutual
theorem E.cau_lt (own : Nat) (x : Int) : ∀ e : E, e.cau own x < 18446744073709551616
  | .mk k i ks => by
    rw [E.cau]
    split
    · omega
    · split
      · refine or_lt ?_ (E.cauL_lt own x ks)
        split
        · exact bitv_lt i
        · omega
      · omega
theorem E.cauL_lt (own : Nat) (x : Int) : ∀ l : List E, E.cauL own x l < 18446744073709551616
  | [] => by simp [E.cauL]
  | e :: es => by rw [E.cauL]; exact or_lt (e.cau_lt own x) (E.cauL_lt own x es)
end
theorem E.fvL_take : ∀ (l : List E) (i : Nat) (x : E), l[i]? = some x → E.fvL (l.take (i + 1)) = E.fvL (l.take i) ||| x.fv
  | [], i, x, h => by simp at h
  | y :: l, 0, x, h => by simp at h; subst h; simp [E.fvL]
  | y :: l, i + 1, x, h => by
    simp only [List.getElem?_cons_succ] at h
    simp only [List.take_succ_cons, E.fvL, E.fvL_take l i x h, Nat.or_assoc]
theorem E.bvL_take : ∀ (l : List E) (i : Nat) (x : E), l[i]? = some x → E.bvL (l.take (i + 1)) = E.bvL (l.take i) ||| x.bv
  | [], i, x, h => by simp at h
  | y :: l, 0, x, h => by simp at h; subst h; simp [E.bvL]
  | y :: l, i + 1, x, h => by
    simp only [List.getElem?_cons_succ] at h
    simp only [List.take_succ_cons, E.bvL, E.bvL_take l i x h, Nat.or_assoc]
theorem E.ovL_take : ∀ (l : List E) (i : Nat) (x : E), l[i]? = some x → E.ovL (l.take (i + 1)) = E.ovL (l.take i) ||| x.ov
  | [], i, x, h => by simp at h
  | y :: l, 0, x, h => by simp at h; subst h; simp [E.ovL]
  | y :: l, i + 1, x, h => by
    simp only [List.getElem?_cons_succ] at h
    simp only [List.take_succ_cons, E.ovL, E.ovL_take l i x h, Nat.or_assoc]
theorem E.cauL_take (own : Nat) (v : Int) : ∀ (l : List E) (i : Nat) (x : E), l[i]? = some x → E.cauL own v (l.take (i + 1)) = E.cauL own v (l.take i) ||| x.cau own v
  | [], i, x, h => by simp at h
  | y :: l, 0, x, h => by simp at h; subst h; simp [E.cauL]
  | y :: l, i + 1, x, h => by
    simp only [List.getElem?_cons_succ] at h
    simp only [List.take_succ_cons, E.cauL, E.cauL_take own v l i x h, Nat.or_assoc]
theorem E.occL_take (b : Nat) : ∀ (l : List E) (i : Nat) (x : E), l[i]? = some x → E.occL b (l.take (i + 1)) = E.occL b (l.take i) ++ x.occ b
  | [], i, x, h => by simp at h
  | y :: l, 0, x, h => by simp at h; subst h; simp [E.occL]
  | y :: l, i + 1, x, h => by
    simp only [List.getElem?_cons_succ] at h
    simp only [List.take_succ_cons, E.occL, E.occL_take b l i x h, List.append_assoc]
theorem E.occL_split (b : Nat) : ∀ (l : List E) (i : Nat) (x : E), l[i]? = some x → ∃ rest, E.occL b l = E.occL b (l.take i) ++ (x.occ b ++ rest)
  | [], i, x, h => by simp at h
  | y :: l, 0, x, h => by simp at h; subst h; exact ⟨E.occL b l, by simp [E.occL]⟩
  | y :: l, i + 1, x, h => by
    simp only [List.getElem?_cons_succ] at h
    obtain ⟨rest, hr⟩ := E.occL_split b l i x h
    exact ⟨rest, by simp only [List.take_succ_cons, E.occL, hr, List.append_assoc]⟩
/-- What a walk gathers. -/
def gat (f : Int → Nat → Nat) (s : Nat) (l : List (Int × Nat)) : Nat := l.foldl (fun s p => s ||| f p.1 p.2) s
theorem gat_bit (f : Int → Nat → Nat) (n : Nat) : ∀ (l : List (Int × Nat)) (s : Nat), (gat f s l).testBit n = (s.testBit n || l.any fun p => (f p.1 p.2).testBit n)
  | [], s => by simp [gat]
  | p :: l, s => by
    have := gat_bit f n l (s ||| f p.1 p.2)
    simp only [gat, List.foldl_cons, List.any_cons] at this ⊢
    rw [this, Nat.testBit_or, Bool.or_assoc]
theorem gat_lt (f : Int → Nat → Nat) (hf : ∀ x b, f x b < 18446744073709551616) : ∀ (l : List (Int × Nat)) (s : Nat), s < 18446744073709551616 → gat f s l < 18446744073709551616
  | [], s, h => h
  | p :: l, s, h => gat_lt f hf l _ (or_lt h (hf p.1 p.2))
def frF (x : Int) (b : Nat) : Nat := if hasB b x = true then 0 else bitv x
def allF (x : Int) (b : Nat) : Nat := bitv x
def cauF (own : Nat) (x : Int) (y : Int) (b : Nat) : Nat := if y = x ∧ hasB b x = false then own &&& b else 0
theorem frF_lt (x : Int) (b : Nat) : frF x b < 18446744073709551616 := by
  unfold frF
  split
  · omega
  · exact bitv_lt x
theorem cauF_lt {own : Nat} (h : own < 18446744073709551616) (x y : Int) (b : Nat) : cauF own x y b < 18446744073709551616 := by
  unfold cauF
  split
  · exact and_lt b h
  · omega
theorem isQ_one : isQ 1 = false := rfl
mutual
theorem E.occ_fr : ∀ (e : E) (b n : Nat), ((e.occ b).any fun p => (frF p.1 p.2).testBit n) = (e.fv.testBit n && !b.testBit n)
  | .mk k i ks, b, n => by
    rw [E.occ, E.fv]
    by_cases h1 : k = 1
    · rw [if_pos h1, if_pos h1]
      simp only [List.any_cons, List.any_nil, Bool.or_false, frF]
      by_cases hi : 0 ≤ i ∧ i ≤ 63
      · rw [hasB_bit b hi]
        rw [bitv_bit]
        by_cases e : (n : Int) = i
        · have : i.toNat = n := by omega
          rw [this]
          cases b.testBit n <;> simp [hi, e, bitv_bit]
        · cases b.testBit i.toNat <;> simp [e, bitv_bit]
      · rw [hasB_out b hi]
        simp [bitv_bit, hi]
    · rw [if_neg h1, if_neg h1]
      rw [E.occL_fr ks]
      cases hq : isQ k
      · simp
      · simp only [if_true]
        rw [clr_bit, Nat.testBit_or]
        cases (E.fvL ks).testBit n <;> cases b.testBit n <;> cases (bitv i).testBit n <;> rfl
theorem E.occL_fr : ∀ (l : List E) (b n : Nat), ((E.occL b l).any fun p => (frF p.1 p.2).testBit n) = ((E.fvL l).testBit n && !b.testBit n)
  | [], b, n => by simp [E.occL, E.fvL]
  | e :: es, b, n => by
    rw [E.occL, E.fvL, List.any_append, E.occ_fr e, E.occL_fr es, Nat.testBit_or]
    cases e.fv.testBit n <;> cases (E.fvL es).testBit n <;> cases b.testBit n <;> rfl
end
mutual
theorem E.occ_all : ∀ (e : E) (b n : Nat), ((e.occ b).any fun p => (allF p.1 p.2).testBit n) = e.ov.testBit n
  | .mk k i ks, b, n => by
    rw [E.occ, E.ov]
    by_cases h1 : k = 1
    · rw [if_pos h1, if_pos h1]
      simp [allF]
    · rw [if_neg h1, if_neg h1]
      exact E.occL_all ks _ n
theorem E.occL_all : ∀ (l : List E) (b n : Nat), ((E.occL b l).any fun p => (allF p.1 p.2).testBit n) = (E.ovL l).testBit n
  | [], b, n => by simp [E.occL, E.ovL]
  | e :: es, b, n => by
    rw [E.occL, E.ovL, List.any_append, E.occ_all e, E.occL_all es, Nat.testBit_or]
end
theorem gat_free (e : E) : gat frF 0 (e.occ 0) = e.fv := by
  refine Nat.eq_of_testBit_eq fun n => ?_
  rw [gat_bit, E.occ_fr]
  simp
theorem gat_all (e : E) : gat allF 0 (e.occ 0) = e.ov := by
  refine Nat.eq_of_testBit_eq fun n => ?_
  rw [gat_bit, E.occ_all]
  simp
mutual
theorem E.cau_free (own : Nat) (x : Int) : ∀ (e : E) (n : Nat), (e.cau own x).testBit n = true → hasB e.fv x = true ∧ own.testBit n = true
  | .mk k i ks, n, h => by
    rw [E.cau] at h
    split at h
    · simp at h
    split at h
    · rename_i hx
      refine ⟨hx, ?_⟩
      rw [Nat.testBit_or, Bool.or_eq_true] at h
      rcases h with h | h
      · split at h
        · rename_i hq
          rw [bitv_bit] at h
          simp only [Bool.and_eq_true, decide_eq_true_eq] at h
          have h2 := hq.2
          rw [hasB_bit own h.1] at h2
          have : i.toNat = n := by omega
          rwa [this] at h2
        · simp at h
      · exact (E.cauL_free own x ks n h).2
    · simp at h
theorem E.cauL_free (own : Nat) (x : Int) : ∀ (l : List E) (n : Nat), (E.cauL own x l).testBit n = true → hasB (E.fvL l) x = true ∧ own.testBit n = true
  | [], n, h => by simp [E.cauL] at h
  | e :: es, n, h => by
    rw [E.cauL, Nat.testBit_or, Bool.or_eq_true] at h
    rw [E.fvL, hasB_or]
    rcases h with h | h
    · obtain ⟨h1, h2⟩ := E.cau_free own x e n h
      exact ⟨by rw [h1]; rfl, h2⟩
    · obtain ⟨h1, h2⟩ := E.cauL_free own x es n h
      exact ⟨by rw [h1, Bool.or_true], h2⟩
end
theorem own_bit {own : Nat} {i : Int} {n : Nat} : ((if hasB own i = true then bitv i else 0).testBit n) = (own.testBit n && (bitv i).testBit n) := by
  rw [bitv_bit]
  by_cases h : 0 ≤ i ∧ i ≤ 63
  · by_cases e : (n : Int) = i
    · have : i.toNat = n := by omega
      rw [hasB_bit own h, this]
      cases own.testBit n <;> simp [bitv_bit, h, e]
    · split <;> simp [bitv_bit, e]
  · rw [hasB_out own h]
    simp [h]
mutual
theorem E.occ_cau (own : Nat) (x : Int) (hx : 0 ≤ x ∧ x ≤ 63) : ∀ (e : E) (b n : Nat), ((e.occ b).any fun p => (cauF own x p.1 p.2).testBit n) = (own.testBit n && !hasB b x && (hasB e.fv x && b.testBit n || (e.cau own x).testBit n))
  | .mk k i ks, b, n => by
    rw [E.occ, E.cau, E.fv]
    by_cases h1 : k = 1
    · rw [if_pos h1, if_pos h1, if_pos h1, hasB_bitv]
      simp only [List.any_cons, List.any_nil, Bool.or_false, cauF, Nat.zero_testBit]
      by_cases hi : i = x
      · subst hi
        cases hb : hasB b i
        · simp [hx, Nat.testBit_and]
        · simp
      · have : ¬ x = i := fun h => hi h.symm
        simp [hi, this]
    · rw [if_neg h1, if_neg h1, if_neg h1, E.occL_cau own x hx ks]
      have hf := E.cauL_free own x ks n
      cases hq : isQ k
      · simp only [Bool.false_eq_true, if_false, false_and]
        cases hD : hasB (E.fvL ks) x
        · cases hK : (E.cauL own x ks).testBit n
          · simp
          · rw [hD] at hf
            exact absurd (hf hK).1 (by simp)
        · simp
      · simp only [if_true, true_and]
        rw [hasB_or, hasB_clr, Nat.testBit_or]
        cases hD : hasB (E.fvL ks) x
        · cases hK : (E.cauL own x ks).testBit n
          · simp
          · rw [hD] at hf
            exact absurd (hf hK).1 (by simp)
        · cases hC : hasB (bitv i) x
          · simp only [Bool.or_false, Bool.true_and, Bool.not_false, if_true, Nat.testBit_or, own_bit]
            cases own.testBit n <;> cases hasB b x <;> cases b.testBit n <;> simp
          · simp
theorem E.occL_cau (own : Nat) (x : Int) (hx : 0 ≤ x ∧ x ≤ 63) : ∀ (l : List E) (b n : Nat), ((E.occL b l).any fun p => (cauF own x p.1 p.2).testBit n) = (own.testBit n && !hasB b x && (hasB (E.fvL l) x && b.testBit n || (E.cauL own x l).testBit n))
  | [], b, n => by simp [E.occL, E.fvL, E.cauL, hasB]
  | e :: es, b, n => by
    rw [E.occL, E.fvL, E.cauL, List.any_append, E.occ_cau own x hx e, E.occL_cau own x hx es, Nat.testBit_or, hasB_or]
    cases own.testBit n <;> cases hasB b x <;> cases hasB e.fv x <;> cases hasB (E.fvL es) x <;> cases b.testBit n <;> simp
end
theorem gat_cau {own : Nat} {x : Int} (hx : 0 ≤ x ∧ x ≤ 63) (e : E) : gat (cauF own x) 0 (e.occ 0) = e.cau own x := by
  refine Nat.eq_of_testBit_eq fun n => ?_
  rw [gat_bit, E.occ_cau own x hx]
  have := E.cau_free own x e n
  cases h : (e.cau own x).testBit n
  · simp
  · simp [this h, hasB]
/-- What a right node's number is, where it is a variable's. -/
theorem id_var {k i : Int} {ks : List E} (h : (E.mk k i ks).sh = true) (hk : k = 1 ∨ isQ k = true) : 0 ≤ i ∧ i ≤ 63 := by
  rw [E.sh_eq, Bool.and_eq_true] at h
  have h1 := h.1
  have hc : k = 1 ∨ k = 7 ∨ k = 10 := by
    rcases hk with h | h
    · exact .inl h
    · simp only [isQ, Bool.or_eq_true, beq_iff_eq] at h
      exact .inr h
  unfold E.loc at h1
  rcases hc with rfl | rfl | rfl
  · simp only [E.want, E.kind, E.kids, E.id, if_true, Bool.and_eq_true] at h1
    exact ⟨of_decide_eq_true h1.1.1.1.1, of_decide_eq_true h1.1.1.1.2⟩
  · have e : E.want 7 = some (63, 1, 1, false) := rfl
    simp only [e, E.kind, E.kids, E.id, Bool.and_eq_true] at h1
    exact ⟨of_decide_eq_true h1.1.1.1.1, of_decide_eq_true h1.1.1.1.2⟩
  · have e : E.want 10 = some (63, 1, 1, false) := rfl
    simp only [e, E.kind, E.kids, E.id, Bool.and_eq_true] at h1
    exact ⟨of_decide_eq_true h1.1.1.1.1, of_decide_eq_true h1.1.1.1.2⟩
mutual
theorem E.occ_ok : ∀ (e : E) (b : Nat), b < 18446744073709551616 → e.sh = true → ∀ p ∈ e.occ b, (0 ≤ p.1 ∧ p.1 ≤ 63) ∧ p.2 < 18446744073709551616
  | .mk k i ks, b, hb, hs, p, hp => by
    rw [E.occ] at hp
    split at hp
    · rename_i h1
      obtain rfl := List.mem_singleton.1 hp
      exact ⟨id_var hs (.inl h1), hb⟩
    · have h2 := hs
      rw [E.sh, Bool.and_eq_true] at h2
      refine E.occL_ok ks _ ?_ h2.2 p hp
      split
      · exact or_lt hb (bitv_lt i)
      · exact hb
theorem E.occL_ok : ∀ (l : List E) (b : Nat), b < 18446744073709551616 → E.shL l = true → ∀ p ∈ E.occL b l, (0 ≤ p.1 ∧ p.1 ≤ 63) ∧ p.2 < 18446744073709551616
  | [], b, hb, hs, p, hp => by simp [E.occL] at hp
  | e :: es, b, hb, hs, p, hp => by
    rw [E.shL, Bool.and_eq_true] at hs
    rw [E.occL] at hp
    rcases List.mem_append.1 hp with h | h
    · exact E.occ_ok e b hb hs.1 p h
    · exact E.occL_ok es b hb hs.2 p h
end
theorem gat_snoc (f : Int → Nat → Nat) (s : Nat) (l : List (Int × Nat)) (p : Int × Nat) : gat f s (l ++ [p]) = gat f s l ||| f p.1 p.2 := by simp [gat]
theorem E.fv_eq (e : E) : e.fv = if e.kind = 1 then bitv e.id else if isQ e.kind = true then clr (E.fvL e.kids) e.id else E.fvL e.kids := by cases e; rw [E.fv]; rfl
theorem E.bv_eq (e : E) : e.bv = (if isQ e.kind = true then bitv e.id else 0) ||| E.bvL e.kids := by cases e; rw [E.bv]; rfl
theorem E.ov_eq (e : E) : e.ov = if e.kind = 1 then bitv e.id else E.ovL e.kids := by cases e; rw [E.ov]; rfl
theorem E.occ_eq (e : E) (b : Nat) : e.occ b = if e.kind = 1 then [(e.id, b)] else E.occL (if isQ e.kind = true then b ||| bitv e.id else b) e.kids := by cases e; rw [E.occ]; rfl
theorem E.cau_eq (own : Nat) (x : Int) (e : E) : e.cau own x = if e.kind = 1 then 0 else if hasB e.fv x = true then (if isQ e.kind = true ∧ hasB own e.id = true then bitv e.id else 0) ||| E.cauL own x e.kids else 0 := by cases e; rw [E.cau]; rfl
theorem E.id_var {e : E} (h : e.sh = true) (hk : e.kind = 1 ∨ isQ e.kind = true) : 0 ≤ e.id ∧ e.id ≤ 63 := by cases e; exact Av.id_var h hk
/-- What is caught, and what is wrong with what is asked. -/
def caughtE (t : E) (x : Int) (a : E) : Nat × Int := if 0 ≤ x ∧ x ≤ 63 then (if t.right = 0 then (if a.right = 0 then (if t.term then (a.cau t.vs x, 0) else (0, 40)) else (0, a.right)) else (0, t.right)) else (0, 1)
/-- Is nothing caught? -/
def freeForE (t : E) (x : Int) (a : E) : Bool := decide ((caughtE t x a).2 = 0) && decide ((caughtE t x a).1 = 0)
theorem caughtE_lt (t : E) (x : Int) (a : E) : (caughtE t x a).1 < 18446744073709551616 := by
  unfold caughtE
  (repeat' split) <;> first | exact E.cau_lt _ _ _ | simp
end Go.Proofs.YtkdendaohlnlcaaGreat.Av

/- What the functions of layer 1 answer that sets of numbers need. No condition. -/
namespace Go.Proofs.YtkdendaohlnlcaaGreat.Av
set_option linter.unusedVariables false
set_option linter.unusedSimpArgs false
set_option maxRecDepth 4000
set_option maxHeartbeats 1000000
variable {w0 : Base} {k : List Nat} {H : Hp}
def dW : Dec Nat where
  dec := fun a => match a with
    | .raw (.int .u64 n) => if 0 ≤ n then some n.toNat else none
    | _ => none
  enc := fun n => .int .u64 (n : Int)
  ok := fun a x h => by
    split at h
    · rename_i n
      split at h
      · cases h
        rename_i h0
        rw [Int.toNat_of_nonneg h0]
        exact Weak.refl _
      · cases h
    · cases h
@[go_sem] theorem dW_at {n : Nat} : dW.dec (.raw (.int .u64 (n : Int))) = some n := by simp [dW]
@[go_sem] theorem dW_zero : dW.dec (.raw (.int .u64 0)) = some 0 := by simp [dW]
theorem wrap_u64 {n : Int} (h0 : 0 ≤ n) (h : n < 18446744073709551616) : IntKind.u64.wrap n = n := by
  have e : IntKind.u64.wrap n = n % 18446744073709551616 := rfl
  rw [e]
  omega
theorem bv_of {a : Nat} (h : a < 18446744073709551616) : (BitVec.ofInt 64 (a : Int)).toNat = a := by
  rw [BitVec.ofInt_natCast, BitVec.toNat_ofNat]
  exact Nat.mod_eq_of_lt h
theorem u64_or {a b : Nat} (ha : a < 18446744073709551616) (hb : b < 18446744073709551616) : orI .u64 a b = ((a ||| b : Nat) : Int) := by
  show IntKind.u64.wrap ((BitVec.ofInt 64 (a : Int) ||| BitVec.ofInt 64 (b : Int)).toNat : Int) = _
  rw [BitVec.toNat_or, bv_of ha, bv_of hb]
  have := or_lt ha hb
  rw [wrap_u64] <;> omega
theorem u64_and {a b : Nat} (ha : a < 18446744073709551616) (hb : b < 18446744073709551616) : andI .u64 a b = ((a &&& b : Nat) : Int) := by
  show IntKind.u64.wrap ((BitVec.ofInt 64 (a : Int) &&& BitVec.ofInt 64 (b : Int)).toNat : Int) = _
  rw [BitVec.toNat_and, bv_of ha, bv_of hb]
  have := and_lt b ha
  rw [wrap_u64] <;> omega
/-- A set without another one. -/
def less (a b : Nat) : Nat := a ^^^ (a &&& b)
theorem less_bit (a b j : Nat) : (less a b).testBit j = (a.testBit j && !b.testBit j) := by
  unfold less
  rw [Nat.testBit_xor, Nat.testBit_and]
  cases a.testBit j <;> cases b.testBit j <;> rfl
theorem less_lt {a : Nat} (b : Nat) (h : a < 18446744073709551616) : less a b < 18446744073709551616 := by
  refine Nat.lt_pow_two_of_testBit (n := 64) _ fun i hi => ?_
  rw [less_bit, bit_out h hi]
  rfl
theorem hasB_less (a b : Nat) (n : Int) : hasB (less a b) n = (hasB a n && !hasB b n) := by
  unfold hasB
  rw [less_bit]
  cases decide (0 ≤ n ∧ n ≤ 63) <;> simp
theorem u64_andNot {a b : Nat} (ha : a < 18446744073709551616) (hb : b < 18446744073709551616) : andNotI .u64 a b = ((less a b : Nat) : Int) := by
  have h : (BitVec.ofInt 64 (a : Int) &&& ~~~BitVec.ofInt 64 (b : Int)).toNat = less a b := by
    refine Nat.eq_of_testBit_eq fun j => ?_
    rw [less_bit, ← BitVec.getLsbD, BitVec.getLsbD_and, BitVec.getLsbD_not, BitVec.getLsbD, BitVec.getLsbD, bv_of ha, bv_of hb]
    by_cases hj : j < 64
    · have : decide (j < 64) = true := by simpa using hj
      rw [this]
      simp
    · rw [bit_out ha (by omega)]
      simp
  show IntKind.u64.wrap ((BitVec.ofInt 64 (a : Int) &&& ~~~BitVec.ofInt 64 (b : Int)).toNat : Int) = _
  rw [h]
  have := less_lt b ha
  rw [wrap_u64] <;> omega
theorem u64_shl {n : Int} (h : 0 ≤ n ∧ n ≤ 63) : shlI .u64 1 n = ((bitv n : Nat) : Int) := by
  show IntKind.u64.wrap (1 * 2 ^ min n.toNat 64) = _
  have e : min n.toNat 64 = n.toNat := by omega
  have hb := bitv_lt n
  have e2 : (1 * 2 ^ n.toNat : Int) = ((bitv n : Nat) : Int) := by
    rw [bitv, if_pos h, Int.one_mul]
    simp
  rw [e, e2, wrap_u64] <;> omega
theorem and_hasB (s : Nat) (n : Int) : (decide (0 ≤ n ∧ n ≤ 63) && (((s &&& bitv n : Nat) : Int) != 0)) = hasB s n := by
  by_cases h : 0 ≤ n ∧ n ≤ 63
  · rw [hasB_bit s h]
    simp only [h, and_self, decide_true, Bool.true_and]
    rw [bitv, if_pos h]
    cases hb : s.testBit n.toNat
    · have : s &&& 2 ^ n.toNat = 0 := by
        refine Nat.eq_of_testBit_eq fun j => ?_
        rw [Nat.testBit_and, Nat.testBit_two_pow]
        by_cases e : n.toNat = j
        · subst e
          simp [hb]
        · simp [e]
      rw [this]
      rfl
    · have : s &&& 2 ^ n.toNat ≠ 0 := fun e => by
        have h1 : (s &&& 2 ^ n.toNat).testBit n.toNat = true := by rw [Nat.testBit_and, Nat.testBit_two_pow, hb]; simp
        rw [e] at h1
        simp at h1
      rw [bne_iff_ne]
      omega
  · rw [hasB_out s h]
    simp [h]
theorem bit_call (n : Int) : CallAt Tryz.prog w0 k 134 [.int .i64 n] H H (.tup [.int .u64 ((bitv n : Nat) : Int), .bool (decide (0 ≤ n ∧ n ≤ 63))]) := by
  refine callAt tabOk Spec.no_ok mixed Tryz.func134 rfl rfl Tryz.results134 Tryz.ntmps134 (by simp) [] ?_
  intro hfr t hl ht
  simp only [At, Nat.reduceAdd, List.cons_append, List.nil_append] at ht
  by_cases h0 : n < 0
  · have d : decide (n < 0) = true := by simpa using h0
    have d2 : decide (0 ≤ n ∧ n ≤ 63) = false := by simp; omega
    have d3 : bitv n = 0 := by rw [bitv, if_neg (by omega)]
    simp (config := {contextual := true, maxSteps := 5000000}) only [go_sem, false_and, Nat.reduceAdd, Nat.reduceLT, Nat.reduceBEq, Nat.reduceSub, Nat.reduceMul, Nat.reduceLeDiff, Int.reduceToNat, Nat.reduceEqDiff, Nat.reduceMod, ht, hl, d, d2, d3]
    exact Weak.refl _
  · have d : decide (n < 0) = false := by simpa using h0
    by_cases h1 : 64 ≤ n
    · have d1 : decide (64 ≤ n) = true := by simpa using h1
      have d2 : decide (0 ≤ n ∧ n ≤ 63) = false := by simp; omega
      have d3 : bitv n = 0 := by rw [bitv, if_neg (by omega)]
      simp (config := {contextual := true, maxSteps := 5000000}) only [go_sem, false_and, Nat.reduceAdd, Nat.reduceLT, Nat.reduceBEq, Nat.reduceSub, Nat.reduceMul, Nat.reduceLeDiff, Int.reduceToNat, Nat.reduceEqDiff, Nat.reduceMod, ht, hl, d, d1, d2, d3]
      exact Weak.refl _
    · have d1 : decide (64 ≤ n) = false := by simpa using h1
      have hn : 0 ≤ n ∧ n ≤ 63 := by omega
      have d2 : decide (0 ≤ n ∧ n ≤ 63) = true := by simpa using hn
      have hw : IntKind.u64.wrap n = n := wrap_u64 (by omega) (by omega)
      have hs := u64_shl hn
      simp (config := {contextual := true, maxSteps := 5000000}) only [go_sem, false_and, Nat.reduceAdd, Nat.reduceLT, Nat.reduceBEq, Nat.reduceSub, Nat.reduceMul, Nat.reduceLeDiff, Int.reduceToNat, Nat.reduceEqDiff, Nat.reduceMod, ht, hl, d, d1, d2, hw, hs]
      omega
def specW1 : Spec := Spec.no.add 134 (sp1 dI (fun _ => True) fun n => .tup [.int .u64 ((bitv n : Nat) : Int), .bool (decide (0 ≤ n ∧ n ≤ 63))])
theorem specW1_ok : SpecOk Tryz.prog w0 specW1 := Spec.no_ok.add (sp1_ok fun n _ k H => bit_call n)
theorem has_call (s : Nat) (n : Int) (hs : s < 18446744073709551616) : CallAt Tryz.prog w0 k 119 [.int .u64 (s : Int), .int .i64 n] H H (.bool (hasB s n)) := by
  refine callAt tabOk specW1_ok mixed Tryz.func119 rfl rfl Tryz.results119 Tryz.ntmps119 (by simp) [] ?_
  intro hfr t hl ht
  simp only [At, Nat.reduceAdd, List.cons_append, List.nil_append] at ht
  have ha := u64_and hs (bitv_lt n)
  have hb := and_hasB s n
  simp (config := {contextual := true, maxSteps := 5000000}) only [go_sem, false_and, Nat.reduceAdd, Nat.reduceLT, Nat.reduceBEq, Nat.reduceSub, Nat.reduceMul, Nat.reduceLeDiff, Int.reduceToNat, Nat.reduceEqDiff, Nat.reduceMod, ht, hl, specW1, ha]
  rw [← hb]
  cases decide (0 ≤ n ∧ n ≤ 63) <;> simp
theorem with_call (s : Nat) (n : Int) (hs : s < 18446744073709551616) : CallAt Tryz.prog w0 k 151 [.int .u64 (s : Int), .int .i64 n] H H (.int .u64 ((s ||| bitv n : Nat) : Int)) := by
  refine callAt tabOk specW1_ok mixed Tryz.func151 rfl rfl Tryz.results151 Tryz.ntmps151 (by simp) [] ?_
  intro hfr t hl ht
  simp only [At, Nat.reduceAdd, List.cons_append, List.nil_append] at ht
  have ha := u64_or hs (bitv_lt n)
  simp (config := {contextual := true, maxSteps := 5000000}) only [go_sem, false_and, Nat.reduceAdd, Nat.reduceLT, Nat.reduceBEq, Nat.reduceSub, Nat.reduceMul, Nat.reduceLeDiff, Int.reduceToNat, Nat.reduceEqDiff, Nat.reduceMod, ht, hl, specW1, ha]
end Go.Proofs.YtkdendaohlnlcaaGreat.Av

/- What the functions of the reference of layer 1 answer that sets of numbers need. No condition. -/
namespace Go.Proofs.YtkdendaohlnlcaaGreat.Av
set_option linter.unusedVariables false
set_option linter.unusedSimpArgs false
set_option maxRecDepth 4000
set_option maxHeartbeats 1000000
variable {w0 : Base} {k : List Nat} {H : Hp}
theorem add_or {s n : Nat} (h : s.testBit n = false) : s + 2 ^ n = s ||| 2 ^ n := by
  have hb : s % 2 ^ n < 2 ^ n := Nat.mod_lt _ (Nat.two_pow_pos n)
  have hs : s = 2 ^ (n + 1) * (s / 2 ^ n / 2) + s % 2 ^ n := by
    have h1 := Nat.div_add_mod s (2 ^ n)
    have h2 := Nat.div_add_mod (s / 2 ^ n) 2
    rw [Nat.testBit_eq_decide_div_mod_eq] at h
    have h3 : s / 2 ^ n % 2 = 0 := by
      have := Nat.mod_lt (s / 2 ^ n) (show 0 < 2 by omega)
      simp only [decide_eq_false_iff_not] at h
      omega
    rw [h3, Nat.add_zero] at h2
    rw [Nat.pow_succ, Nat.mul_assoc, h2]
    exact h1.symm
  generalize s / 2 ^ n / 2 = a at hs
  generalize s % 2 ^ n = b at hs hb
  have e1 : 2 ^ (n + 1) * a + b = 2 ^ (n + 1) * a ||| b := Nat.two_pow_add_eq_or_of_lt (by rw [Nat.pow_succ]; omega) a
  have e2 : 2 ^ n * 1 + b = 2 ^ n * 1 ||| b := Nat.two_pow_add_eq_or_of_lt hb 1
  have e3 : 2 ^ (n + 1) * a + (2 ^ n + b) = 2 ^ (n + 1) * a ||| (2 ^ n + b) := Nat.two_pow_add_eq_or_of_lt (by rw [Nat.pow_succ]; omega) a
  rw [Nat.mul_one] at e2
  have e4 : s + 2 ^ n = 2 ^ (n + 1) * a + (2 ^ n + b) := by omega
  rw [e4, e3, e2, hs, e1, Nat.or_comm (2 ^ n) b, Nat.or_assoc]
theorem add_bitv {s : Nat} {n : Int} (h : hasB s n = false) : s + bitv n = s ||| bitv n := by
  unfold bitv
  split
  · rename_i hn
    rw [hasB_bit s hn] at h
    exact add_or h
  · simp
theorem clr_add {s : Nat} {n : Int} (h : hasB s n = true) : clr s n + bitv n = s := by
  have hn : 0 ≤ n ∧ n ≤ 63 := by
    unfold hasB at h
    simp only [Bool.and_eq_true, decide_eq_true_eq] at h
    exact h.1
  rw [add_bitv (by rw [hasB_clr, hasB_bitv]; simp [hn])]
  refine Nat.eq_of_testBit_eq fun j => ?_
  rw [Nat.testBit_or, clr_bit, bitv_bit]
  by_cases e : (j : Int) = n
  · rw [hasB_bit s hn] at h
    have : n.toNat = j := by omega
    rw [this] at h
    simp [h, e, hn]
  · simp [e]
theorem clr_no {s : Nat} {n : Int} (h : hasB s n = false) : clr s n = s := by
  refine Nat.eq_of_testBit_eq fun j => ?_
  rw [clr_bit, bitv_bit]
  by_cases e : 0 ≤ n ∧ n ≤ 63 ∧ (j : Int) = n
  · rw [hasB_bit s ⟨e.1, e.2.1⟩] at h
    have : n.toNat = j := by omega
    rw [this] at h
    simp [h]
  · by_cases h1 : 0 ≤ n ∧ n ≤ 63
    · have : ¬ ((j : Int) = n) := fun h2 => e ⟨h1.1, h1.2, h2⟩
      simp [this]
    · simp [h1]
theorem power_call (n : Int) : CallAt Tryz.prog w0 k 136 [.int .i64 n] H H (.int .u64 ((bitv n : Nat) : Int)) := by
  refine callAt tabOk Spec.no_ok mixed Tryz.func136 rfl rfl Tryz.results136 Tryz.ntmps136 (by simp) [] ?_
  intro hfr t hl ht
  simp only [At, Nat.reduceAdd, List.cons_append, List.nil_append] at ht
  by_cases h0 : n < 0
  · have d : decide (n < 0) = true := by simpa using h0
    have d3 : bitv n = 0 := by rw [bitv, if_neg (by omega)]
    simp (config := {contextual := true, maxSteps := 5000000}) only [go_sem, false_and, Nat.reduceAdd, Nat.reduceLT, Nat.reduceBEq, Nat.reduceSub, Nat.reduceMul, Nat.reduceLeDiff, Int.reduceToNat, Nat.reduceEqDiff, Nat.reduceMod, ht, hl, d, d3]
    rfl
  have d : decide (n < 0) = false := by simpa using h0
  by_cases h1 : 63 < n
  · have d1 : decide (63 < n) = true := by simpa using h1
    have d3 : bitv n = 0 := by rw [bitv, if_neg (by omega)]
    simp (config := {contextual := true, maxSteps := 5000000}) only [go_sem, false_and, Nat.reduceAdd, Nat.reduceLT, Nat.reduceBEq, Nat.reduceSub, Nat.reduceMul, Nat.reduceLeDiff, Int.reduceToNat, Nat.reduceEqDiff, Nat.reduceMod, ht, hl, d, d1, d3]
    rfl
  have d1 : decide (63 < n) = false := by simpa using h1
  simp (config := {contextual := true, maxSteps := 5000000}) only [go_sem, false_and, Nat.reduceAdd, Nat.reduceLT, Nat.reduceBEq, Nat.reduceSub, Nat.reduceMul, Nat.reduceLeDiff, Int.reduceToNat, Nat.reduceEqDiff, Nat.reduceMod, ht, hl, d, d1]
  refine loop_inv tabOk Spec.no_ok mixed [] (fun j x => ∃ i : Nat, x.tmps.length = 19 ∧ x.tmps.getD 0 AV.undef = .int .i64 n ∧ x.tmps.getD 3 AV.undef = .int .u64 ((2 ^ i : Nat) : Int) ∧ x.tmps.getD 4 AV.undef = .int .i64 i ∧ x.H = H ∧ i + j = n.toNat) n.toNat ⟨0, ?_⟩ ?_
  · simp (config := {contextual := true, maxSteps := 5000000}) only [go_sem, false_and, Nat.reduceAdd, Nat.reduceLT, Nat.reduceBEq, Nat.reduceSub, Nat.reduceMul, Nat.reduceLeDiff, Int.reduceToNat, Nat.reduceEqDiff, Nat.reduceMod, ht, hl]
    simp
  · rintro j ⟨t, m, H'⟩ ⟨i, hl, g0, g3, g4, rfl, hij⟩
    simp only at hl g0 g3 g4
    by_cases hi : i < n.toNat
    · have hd : decide ((i : Int) < n) = true := by simp; omega
      have hw : IntKind.i64.wrap ((i : Int) + 1) = ((i + 1 : Nat) : Int) := by rw [wrap_i64] <;> omega
      have hp : 2 ^ (i + 1) ≤ 2 ^ 63 := Nat.pow_le_pow_right (by omega) (by omega)
      have hm : IntKind.u64.wrap (((2 ^ i : Nat) : Int) * 2) = ((2 ^ (i + 1) : Nat) : Int) := by
        rw [Nat.pow_succ] at hp ⊢
        rw [wrap_u64] <;> omega
      simp (config := {contextual := true, maxSteps := 5000000}) only [go_sem, false_and, Nat.reduceAdd, Nat.reduceLT, Nat.reduceBEq, Nat.reduceSub, Nat.reduceMul, Nat.reduceLeDiff, Int.reduceToNat, Nat.reduceEqDiff, Nat.reduceMod, g0, g3, g4, hl, hd, hw, hm]
      exact ⟨j - 1, by omega, i + 1, rfl, rfl, by omega⟩
    · have hd : decide ((i : Int) < n) = false := by simp; omega
      have e : bitv n = 2 ^ i := by
        rw [bitv, if_pos (by omega)]
        congr 1
        omega
      simp (config := {contextual := true, maxSteps := 5000000}) only [go_sem, false_and, Nat.reduceAdd, Nat.reduceLT, Nat.reduceBEq, Nat.reduceSub, Nat.reduceMul, Nat.reduceLeDiff, Int.reduceToNat, Nat.reduceEqDiff, Nat.reduceMod, g0, g3, g4, hl, hd, e]
def specW2 : Spec := Spec.no.add 136 (sp1 dI (fun _ => True) fun n => .int .u64 ((bitv n : Nat) : Int))
theorem specW2_ok : SpecOk Tryz.prog w0 specW2 := Spec.no_ok.add (sp1_ok fun n _ k H => power_call n)
theorem hasB_div (s : Nat) {n : Int} (h : 0 ≤ n ∧ n ≤ 63) : ((((s : Int).tdiv ((bitv n : Nat) : Int)).tmod 2) == 1) = hasB s n := by
  rw [hasB_bit s h, Nat.testBit_eq_decide_div_mod_eq, bitv, if_pos h]
  have e : ((s : Int).tdiv ((2 ^ n.toNat : Nat) : Int)).tmod 2 = ((s / 2 ^ n.toNat % 2 : Nat) : Int) := by
    rw [← Int.ofNat_tdiv, show (2 : Int) = ((2 : Nat) : Int) from rfl, ← Int.ofNat_tmod]
  rw [e, Bool.eq_iff_iff, beq_iff_eq, decide_eq_true_eq]
  omega
theorem has01_call (s : Nat) (n : Int) (hs : s < 18446744073709551616) : CallAt Tryz.prog w0 k 122 [.int .u64 (s : Int), .int .i64 n] H H (.bool (hasB s n)) := by
  refine callAt tabOk specW2_ok mixed Tryz.func122 rfl rfl Tryz.results122 Tryz.ntmps122 (by simp) [] ?_
  intro hfr t hl ht
  simp only [At, Nat.reduceAdd, List.cons_append, List.nil_append] at ht
  by_cases hn : 0 ≤ n ∧ n ≤ 63
  · have h0 : ((((bitv n : Nat) : Int)) != 0) = true := by
      rw [bne_iff_ne, bitv, if_pos hn]
      have := Nat.two_pow_pos n.toNat
      omega
    have h1 : ((bitv n : Nat) : Int) ≠ 0 := by simpa using h0
    have h2 := hasB_div s hn
    have hw : IntKind.u64.wrap ((s : Int).tdiv ((bitv n : Nat) : Int)) = (s : Int).tdiv ((bitv n : Nat) : Int) := by
      rw [← Int.ofNat_tdiv, wrap_u64 (Int.natCast_nonneg _)]
      have := Nat.div_le_self s (bitv n)
      have h4 : ((s / bitv n : Nat) : Int) ≤ (s : Int) := by exact_mod_cast this
      omega
    simp (config := {contextual := true, maxSteps := 5000000}) only [go_sem, false_and, Nat.reduceAdd, Nat.reduceLT, Nat.reduceBEq, Nat.reduceSub, Nat.reduceMul, Nat.reduceLeDiff, Int.reduceToNat, Nat.reduceEqDiff, Nat.reduceMod, ht, hl, specW2, h0, hw]
    exact ⟨h1, by decide, h2⟩
  · have hz : bitv n = 0 := by rw [bitv, if_neg hn]
    have h2 := hasB_out s hn
    simp (config := {contextual := true, maxSteps := 5000000}) only [go_sem, false_and, Nat.reduceAdd, Nat.reduceLT, Nat.reduceBEq, Nat.reduceSub, Nat.reduceMul, Nat.reduceLeDiff, Int.reduceToNat, Nat.reduceEqDiff, Nat.reduceMod, ht, hl, specW2, hz, h2, Int.ofNat_zero]
    simp
def specW3 : Spec := specW2.add 122 (sp2 dW dI (fun s _ => s < 18446744073709551616) fun s n => .bool (hasB s n))
theorem specW3_ok : SpecOk Tryz.prog w0 specW3 := specW2_ok.add (sp2_ok fun s n h k H => has01_call s n h)
theorem with01_call (s : Nat) (n : Int) (hs : s < 18446744073709551616) : CallAt Tryz.prog w0 k 125 [.int .u64 (s : Int), .int .i64 n] H H (.int .u64 ((s ||| bitv n : Nat) : Int)) := by
  refine callAt tabOk specW3_ok mixed Tryz.func125 rfl rfl Tryz.results125 Tryz.ntmps125 (by simp) [] ?_
  intro hfr t hl ht
  simp only [At, Nat.reduceAdd, List.cons_append, List.nil_append] at ht
  cases h : hasB s n
  · have e := add_bitv h
    have hlt := or_lt hs (bitv_lt n)
    have hw : IntKind.u64.wrap ((s : Int) + ((bitv n : Nat) : Int)) = ((s ||| bitv n : Nat) : Int) := by rw [wrap_u64] <;> omega
    simp (config := {contextual := true, maxSteps := 5000000}) only [go_sem, false_and, Nat.reduceAdd, Nat.reduceLT, Nat.reduceBEq, Nat.reduceSub, Nat.reduceMul, Nat.reduceLeDiff, Int.reduceToNat, Nat.reduceEqDiff, Nat.reduceMod, ht, hl, hs, specW3, specW2, h, hw]
  · have e : s ||| bitv n = s := by
      refine Nat.eq_of_testBit_eq fun j => ?_
      rw [Nat.testBit_or, bitv_bit]
      have hn : 0 ≤ n ∧ n ≤ 63 := by
        unfold hasB at h
        simp only [Bool.and_eq_true, decide_eq_true_eq] at h
        exact h.1
      rw [hasB_bit s hn] at h
      by_cases e : (j : Int) = n
      · have : n.toNat = j := by omega
        rw [this] at h
        simp [h]
      · simp [e]
    simp (config := {contextual := true, maxSteps := 5000000}) only [go_sem, false_and, Nat.reduceAdd, Nat.reduceLT, Nat.reduceBEq, Nat.reduceSub, Nat.reduceMul, Nat.reduceLeDiff, Int.reduceToNat, Nat.reduceEqDiff, Nat.reduceMod, ht, hl, hs, specW3, specW2, h, e]
theorem without01_call (s : Nat) (n : Int) (hs : s < 18446744073709551616) : CallAt Tryz.prog w0 k 137 [.int .u64 (s : Int), .int .i64 n] H H (.int .u64 ((clr s n : Nat) : Int)) := by
  refine callAt tabOk specW3_ok mixed Tryz.func137 rfl rfl Tryz.results137 Tryz.ntmps137 (by simp) [] ?_
  intro hfr t hl ht
  simp only [At, Nat.reduceAdd, List.cons_append, List.nil_append] at ht
  cases h : hasB s n
  · have e := clr_no h
    simp (config := {contextual := true, maxSteps := 5000000}) only [go_sem, false_and, Nat.reduceAdd, Nat.reduceLT, Nat.reduceBEq, Nat.reduceSub, Nat.reduceMul, Nat.reduceLeDiff, Int.reduceToNat, Nat.reduceEqDiff, Nat.reduceMod, ht, hl, hs, specW3, specW2, h, e]
  · have e := clr_add h
    have hlt := clr_lt hs n
    have hw : IntKind.u64.wrap ((s : Int) - ((bitv n : Nat) : Int)) = ((clr s n : Nat) : Int) := by rw [wrap_u64] <;> omega
    simp (config := {contextual := true, maxSteps := 5000000}) only [go_sem, false_and, Nat.reduceAdd, Nat.reduceLT, Nat.reduceBEq, Nat.reduceSub, Nat.reduceMul, Nat.reduceLeDiff, Int.reduceToNat, Nat.reduceEqDiff, Nat.reduceMod, ht, hl, hs, specW3, specW2, h, hw]
def specW4 : Spec := specW3.add 125 (sp2 dW dI (fun s _ => s < 18446744073709551616) fun s n => .int .u64 ((s ||| bitv n : Nat) : Int))
theorem specW4_ok : SpecOk Tryz.prog w0 specW4 := specW3_ok.add (sp2_ok fun s n h k H => with01_call s n h)
theorem union_call (a b : Nat) (ha : a < 18446744073709551616) (hb : b < 18446744073709551616) : CallAt Tryz.prog w0 k 109 [.int .u64 (a : Int), .int .u64 (b : Int)] H H (.int .u64 ((a ||| b : Nat) : Int)) := by
  refine callAt tabOk specW4_ok mixed Tryz.func109 rfl rfl Tryz.results109 Tryz.ntmps109 (by simp) [] ?_
  intro hfr t hl ht
  simp only [At, Nat.reduceAdd, List.cons_append, List.nil_append] at ht
  simp (config := {contextual := true, maxSteps := 5000000}) only [go_sem, false_and, Nat.reduceAdd, Nat.reduceLT, Nat.reduceBEq, Nat.reduceSub, Nat.reduceMul, Nat.reduceLeDiff, Int.reduceToNat, Nat.reduceEqDiff, Nat.reduceMod, ht, hl]
  refine loop_inv tabOk specW4_ok mixed [] (fun j x => ∃ (i s : Nat), x.tmps.length = 19 ∧ x.tmps.getD 1 AV.undef = .int .u64 (b : Int) ∧ x.tmps.getD 5 AV.undef = .int .u64 (s : Int) ∧ x.tmps.getD 6 AV.undef = .int .i64 i ∧ x.H = H ∧ i + j = 64 ∧ s < 18446744073709551616 ∧ ∀ q, s.testBit q = (a.testBit q || (decide (q < i) && b.testBit q))) 64 ⟨0, a, ?_⟩ ?_
  · simp (config := {contextual := true, maxSteps := 5000000}) only [go_sem, false_and, Nat.reduceAdd, Nat.reduceLT, Nat.reduceBEq, Nat.reduceSub, Nat.reduceMul, Nat.reduceLeDiff, Int.reduceToNat, Nat.reduceEqDiff, Nat.reduceMod, ht, hl]
    simp [ha]
  · rintro j ⟨t, m, H'⟩ ⟨i, s, hl, g1, g5, g6, rfl, hij, hs, hq⟩
    simp only at hl g1 g5 g6
    by_cases hi : i < 64
    · have hd : decide ((i : Int) < 64) = true := by simp; omega
      have hw : IntKind.i64.wrap ((i : Int) + 1) = ((i + 1 : Nat) : Int) := by rw [wrap_i64] <;> omega
      have hb1 : hasB b (i : Int) = b.testBit i := by rw [hasB_bit b (by omega)]; rfl
      cases hh : b.testBit i
      · rw [hh] at hb1
        simp (config := {contextual := true, maxSteps := 5000000}) only [go_sem, false_and, Nat.reduceAdd, Nat.reduceLT, Nat.reduceBEq, Nat.reduceSub, Nat.reduceMul, Nat.reduceLeDiff, Int.reduceToNat, Nat.reduceEqDiff, Nat.reduceMod, g1, g5, g6, hl, hs, hd, hw, specW4, specW3, specW2, hb1]
        refine ⟨hb, j - 1, by omega, i + 1, s, rfl, rfl, by omega, hs, fun q => ?_⟩
        rw [hq q]
        by_cases e : q = i
        · subst e
          simp [hh]
        · have : decide (q < i + 1) = decide (q < i) := by simp; omega
          rw [this]
      · rw [hh] at hb1
        simp (config := {contextual := true, maxSteps := 5000000}) only [go_sem, false_and, Nat.reduceAdd, Nat.reduceLT, Nat.reduceBEq, Nat.reduceSub, Nat.reduceMul, Nat.reduceLeDiff, Int.reduceToNat, Nat.reduceEqDiff, Nat.reduceMod, g1, g5, g6, hl, hs, hd, hw, specW4, specW3, specW2, hb1]
        refine ⟨hb, j - 1, by omega, i + 1, s ||| bitv i, rfl, rfl, by omega, or_lt hs (bitv_lt _), fun q => ?_⟩
        rw [Nat.testBit_or, hq q, bitv_bit]
        by_cases e : q = i
        · subst e
          simp [hh]
          omega
        · have : decide (q < i + 1) = decide (q < i) := by simp; omega
          have h2 : ¬ ((q : Int) = (i : Int)) := by omega
          rw [this]
          simp [h2]
    · have hd : decide ((i : Int) < 64) = false := by simp; omega
      have e : s = a ||| b := by
        refine bits_ext hs (or_lt ha hb) fun q hlt => ?_
        rw [hq q, Nat.testBit_or]
        have : decide (q < i) = true := by simp; omega
        rw [this, Bool.true_and]
      simp (config := {contextual := true, maxSteps := 5000000}) only [go_sem, false_and, Nat.reduceAdd, Nat.reduceLT, Nat.reduceBEq, Nat.reduceSub, Nat.reduceMul, Nat.reduceLeDiff, Int.reduceToNat, Nat.reduceEqDiff, Nat.reduceMod, g1, g5, g6, hl, hd, e]
end Go.Proofs.YtkdendaohlnlcaaGreat.Av

/- Steps and units as plain data, and how they lie in memory. No condition. -/
namespace Go.Proofs.YtkdendaohlnlcaaGreat.Av
set_option linter.unusedVariables false
set_option linter.unusedSimpArgs false
set_option maxRecDepth 4000
set_option maxHeartbeats 1000000

section
variable {α : Type}
def decL (d : List AV → Option α) : List (List AV) → Option (List α)
  | [] => some []
  | x :: xs => (d x).bind fun a => (decL d xs).bind fun l => some (a :: l)
/-- A row of parts, read part by part. -/
structure DecC (α : Type) where
  dec : List AV → Option α
  enc : α → List AV
  sz : Nat
  len : ∀ c x, dec c = some x → c.length = sz
  elen : ∀ x, (enc x).length = sz
  ok : ∀ c x, dec c = some x → ∀ G V, RepL G c V → RepL G (enc x) V
  self : ∀ x, dec (enc x) = some x
theorem decL_length (D : DecC α) : ∀ {xs : List (List AV)} {l : List α}, decL D.dec xs = some l → xs.length = l.length
  | [], l, h => by simp only [decL, Option.some.injEq] at h; subst h; rfl
  | x :: xs, l, h => by
    simp only [decL, Option.bind_eq_some_iff] at h
    obtain ⟨a, h1, l', h2, h3⟩ := h
    cases h3
    simp [decL_length D h2]
theorem decL_repE (D : DecC α) {G : Gh} : ∀ (xs : List (List AV)) (l : List α), decL D.dec xs = some l → ∀ ad k, RepE G ad k xs → RepE G ad k (l.map D.enc)
  | [], l, h, ad, k, hr => by
    simp only [decL, Option.some.injEq] at h
    subst h
    simp [RepE]
  | x :: xs, l, h, ad, k, hr => by
    simp only [decL, Option.bind_eq_some_iff] at h
    obtain ⟨a, h1, l', h2, h3⟩ := h
    cases h3
    simp only [List.map_cons, RepE] at hr ⊢
    obtain ⟨vs, r, g⟩ := hr.1.values
    refine ⟨RepC_of_list _ _ _ (D.ok x a h1 G vs r) g, ?_⟩
    rw [D.elen, ← D.len x a h1]
    exact decL_repE D xs l' h2 ad _ hr.2
theorem decL_weak (D : DecC α) {t : Tok} {xs : List (List AV)} {l : List α} (h : decL D.dec xs = some l) : Weak (.list t xs) (.list .none (l.map D.enc)) := fun G V hr => by
  simp only [Rep] at hr ⊢
  obtain ⟨A, n, cp, e1, e2, e3, e4, e5, ad, e6, e7⟩ := hr
  have hl := decL_length D h
  refine ⟨A, n, cp, e1, by simp; omega, e3, trivial, ⟨D.sz, ?_⟩, ad, fun hne => e6 ?_, decL_repE D xs l h ad 0 e7⟩
  · intro x hx
    obtain ⟨y, _, rfl⟩ := List.mem_map.1 hx
    exact D.elen y
  · intro hx
    subst hx
    cases l with
    | nil => exact hne rfl
    | cons _ _ => simp at hl
theorem decL_self (D : DecC α) : ∀ l : List α, decL D.dec (l.map D.enc) = some l
  | [] => rfl
  | x :: l => by simp [decL, D.self, decL_self D l]
def dL (D : DecC α) : Dec (List α) where
  dec := fun a => match a with
    | .list _ xs => decL D.dec xs
    | _ => none
  enc := fun l => .list .none (l.map D.enc)
  ok := fun a x h => by
    split at h
    · exact decL_weak D h
    · cases h
def dA (D : DecC α) : Dec α where
  dec := fun a => match a with
    | .agg c => D.dec c
    | _ => none
  enc := fun x => .agg (D.enc x)
  ok := fun a x h => by
    split at h
    · intro G V hr
      simp only [Rep] at hr ⊢
      obtain ⟨cs, h1, h2⟩ := hr
      exact ⟨cs, h1, D.ok _ _ h G _ h2⟩
    · cases h
@[go_sem] theorem dL_at {D : DecC α} {t : Tok} {l : List α} : (dL D).dec (.list t (l.map D.enc)) = some l := decL_self D l
@[go_sem] theorem dA_at {D : DecC α} {c : List AV} : (dA D).dec (.agg c) = D.dec c := rfl
end

def cE : DecC E where
  dec := toE
  enc := E.cells
  sz := 3
  len := fun c x h => toE_length h
  elen := E.cells_length
  ok := fun c x h G V hr => toE_rep x c h V hr
  self := toE_cells
def cS : DecC ByteArray where
  dec := fun c => match c with
    | [.raw (.string s)] => some s
    | _ => none
  enc := fun s => [.str s]
  sz := 1
  len := fun c x h => by
    split at h
    · rfl
    · cases h
  elen := fun x => rfl
  ok := fun c x h G V hr => by
    split at h
    · cases h
      exact hr
    · cases h
  self := fun x => rfl

@[go_sem] theorem cS_cons {t : Tok} {s : ByteArray} {l : List ByteArray} : (dL cS).dec (.list t ([.raw (.string s)] :: l.map cS.enc)) = some (s :: l) := by
  show decL cS.dec _ = _
  rw [decL, decL_self]
  rfl
@[go_sem] theorem cS_strip {l : List ByteArray} : List.map (fun x => List.map strip x) (l.map cS.enc) = l.map cS.enc := by
  rw [List.map_map]
  rfl
theorem cS_each (l : List ByteArray) : ∀ y ∈ l.map cS.enc, y.length = 1 := fun y hy => by
  obtain ⟨x, _, rfl⟩ := List.mem_map.1 hy
  rfl
theorem cS_one (l : List ByteArray) : (l.map cS.enc).flatten.all oneA = true := by
  rw [List.all_eq_true]
  intro x hx
  obtain ⟨y, hy, hx⟩ := List.mem_flatten.1 hx
  obtain ⟨z, _, rfl⟩ := List.mem_map.1 hy
  simp only [cS, List.mem_cons, List.not_mem_nil, or_false] at hx
  subst hx
  rfl
theorem RepL.parts {G : Gh} : ∀ {as_ bs : List AV} {V : List Value}, RepL G (as_ ++ bs) V → ∃ v1 v2, V = v1 ++ v2 ∧ RepL G as_ v1 ∧ RepL G bs v2
  | [], bs, V, h => ⟨[], V, rfl, by simp [RepL], h⟩
  | a :: l, bs, V, h => by
    simp only [List.cons_append, RepL] at h
    obtain ⟨u, us, rfl, h1, h2⟩ := h
    obtain ⟨v1, v2, rfl, h3, h4⟩ := RepL.parts h2
    exact ⟨u :: v1, v2, rfl, by simp only [RepL]; exact ⟨_, _, rfl, h1, h3⟩, h4⟩
structure Step where
  says : E
  by_ : Int
  a : Int
  b : Int
  cite : ByteArray
def Step.cells (s : Step) : List AV := [.int .i64 s.says.kind, .int .i64 s.says.id, .list .none (s.says.kids.map E.cells), .int .i64 s.by_, .int .i64 s.a, .int .i64 s.b, .str s.cite]
def cStep : DecC Step where
  dec := fun c => match c with
    | [x, y, z, .raw (.int .i64 n), .raw (.int .i64 a), .raw (.int .i64 b), .raw (.string s)] => (toE [x, y, z]).map fun e => ⟨e, n, a, b, s⟩
    | _ => none
  enc := Step.cells
  sz := 7
  len := fun c x h => by
    split at h
    · rfl
    · cases h
  elen := fun x => rfl
  ok := fun c x h G V hr => by
    split at h
    · rename_i p q r n a b s
      simp only [Option.map_eq_some_iff] at h
      obtain ⟨e, he, rfl⟩ := h
      have h1 : RepL G ([p, q, r] ++ [.raw (.int .i64 n), .raw (.int .i64 a), .raw (.int .i64 b), .raw (.string s)]) V := hr
      obtain ⟨v1, v2, rfl, h2, h3⟩ := RepL.parts h1
      have := toE_rep e _ he _ h2
      rw [E.cells_eq] at this
      exact RepL.append this h3
    · cases h
  self := fun x => by
    simp only [Step.cells]
    have := toE_cells x.says
    rw [E.cells_eq] at this
    simp [this]
structure U where
  cites : List ByteArray
  states : E
  steps : List Step
def U.cells (u : U) : List AV := [.list .none (u.cites.map cS.enc), .int .i64 u.states.kind, .int .i64 u.states.id, .list .none (u.states.kids.map E.cells), .list .none (u.steps.map cStep.enc)]
def cU : DecC U where
  dec := fun c => match c with
    | [.list _ l, x, y, z, .list _ m] => (decL cS.dec l).bind fun l => (toE [x, y, z]).bind fun e => (decL cStep.dec m).bind fun m => some ⟨l, e, m⟩
    | _ => none
  enc := U.cells
  sz := 5
  len := fun c x h => by
    split at h
    · rfl
    · cases h
  elen := fun x => rfl
  ok := fun c x h G V hr => by
    split at h
    · rename_i t l p q r t' m
      simp only [Option.bind_eq_some_iff] at h
      obtain ⟨l', hl, e, he, m', hm, h⟩ := h
      cases h
      have h1 : RepL G ([.list t l] ++ ([p, q, r] ++ [.list t' m])) V := hr
      obtain ⟨v1, v2, rfl, h2, h3⟩ := RepL.parts h1
      obtain ⟨v3, v4, rfl, h4, h5⟩ := RepL.parts h3
      have := toE_rep e _ he _ h4
      rw [E.cells_eq] at this
      have w1 : WeakL [.list t l] [.list .none (l'.map cS.enc)] := ⟨_, _, rfl, decL_weak cS hl, rfl⟩
      have w2 : WeakL [.list t' m] [.list .none (m'.map cStep.enc)] := ⟨_, _, rfl, decL_weak cStep hm, rfl⟩
      exact RepL.append (w1.rep h2) (RepL.append this (w2.rep h5))
    · cases h
  self := fun x => by
    simp only [U.cells]
    have := toE_cells x.states
    rw [E.cells_eq] at this
    simp [this, decL_self]
@[go_sem] theorem cE_dec : cE.dec = toE := rfl
@[go_sem] theorem cE_enc : cE.enc = E.cells := rfl
@[go_sem] theorem cStep_at (s : Step) (t : Tok) : cStep.dec [.raw (.int .i64 s.says.kind), .raw (.int .i64 s.says.id), .list t (s.says.kids.map E.cells), .raw (.int .i64 s.by_), .raw (.int .i64 s.a), .raw (.int .i64 s.b), .raw (.string s.cite)] = some s := by
  simp [cStep, toE_at]
@[go_sem] theorem cU_at (u : U) (t t' t'' : Tok) : cU.dec [.list t (u.cites.map cS.enc), .raw (.int .i64 u.states.kind), .raw (.int .i64 u.states.id), .list t' (u.states.kids.map E.cells), .list t'' (u.steps.map cStep.enc)] = some u := by
  simp [cU, toE_at, decL_self]
theorem str_get (l : List ByteArray) {i : Nat} (h : i < l.length) : ∃ s, l[i]? = some s ∧ (l.map cS.enc).getD i [] = [.str s] :=
  ⟨l[i], by simp [h], by simp [List.getD_eq_getElem?_getD, h, cS]⟩
theorem step_get (l : List Step) {i : Nat} (h : i < l.length) : ∃ s, l[i]? = some s ∧ (l.map cStep.enc).getD i [] = s.cells :=
  ⟨l[i], by simp [h], by simp [List.getD_eq_getElem?_getD, h, cStep]⟩
end Go.Proofs.YtkdendaohlnlcaaGreat.Av

/- Lists that grow; expressions of no kind. No condition. -/
namespace Go.Proofs.YtkdendaohlnlcaaGreat.Av
set_option linter.unusedVariables false
set_option linter.unusedSimpArgs false
set_option maxRecDepth 4000
set_option maxHeartbeats 1000000
variable {w0 : Base} {k : List Nat} {H : Hp}
/-- A list that the call has made and alone appends to. -/
def LstAt (H0 : Hp) (sz : Nat) (ty : TypeId) (tk : Tok) (H : Hp) : Prop := H0.Le H ∧ ((tk = .nil ∨ tk = .full) ∨ ∃ id : Id, tk = .tok id ∧ H id = some .tok ∧ H0 id = none ∧ id.sz = sz ∧ id.ty = ty)
theorem LstAt.live {H0 H : Hp} {sz : Nat} {ty : TypeId} {tk : Tok} (h : LstAt H0 sz ty tk H) : tokLive H sz ty tk := by
  rcases h.2 with (rfl | rfl) | ⟨id, rfl, h1, _, h2, h3⟩
  · exact trivial
  · exact trivial
  · exact ⟨h1, h2, h3⟩
theorem LstAt.push {H0 H : Hp} {sz : Nat} {ty : TypeId} {tk : Tok} (h : LstAt H0 sz ty tk H) {y : List AV} {ys : List (List AV)} {key : List Nat} (hn : H0 ⟨sz, key, ty⟩ = none) :
    LstAt H0 sz ty (tokBy tk (y :: ys) ⟨sz, key, ty⟩) ((killTok H tk).upd ⟨sz, key, ty⟩ (some .tok)) := by
  have e : tokBy tk (y :: ys) ⟨sz, key, ty⟩ = .tok ⟨sz, key, ty⟩ := by cases tk <;> rfl
  rw [e]
  refine ⟨fun i x hi => ?_, .inr ⟨_, rfl, Hp.upd_same _ _ _, hn, rfl, rfl⟩⟩
  have hne : i ≠ ⟨sz, key, ty⟩ := fun he => by rw [he, hn] at hi; cases hi
  rw [Hp.upd_ne _ _ hne]
  have hH := h.1 i x hi
  rcases h.2 with (rfl | rfl) | ⟨id, rfl, _, h0, _⟩
  · exact hH
  · exact hH
  · have hne2 : i ≠ id := fun he => by rw [he, h0] at hi; cases hi
    show (H.upd id none) i = some x
    rw [Hp.upd_ne _ _ hne2]
    exact hH
theorem LstAt.le {H0 H : Hp} {sz : Nat} {ty : TypeId} {tk : Tok} (h : LstAt H0 sz ty tk H) : H0.Le H := h.1
theorem LstAt.frame {H0 H : Hp} {sz : Nat} {ty : TypeId} {tk : Tok} (h : LstAt H0 sz ty tk H) {X : Id} {e : Option Ent} (hX : H0 X = none) (hz : X.sz ≠ sz) : LstAt H0 sz ty tk (H.upd X e) := by
  refine ⟨fun i x hi => ?_, ?_⟩
  · have hne : i ≠ X := fun he => by rw [he, hX] at hi; cases hi
    rw [Hp.upd_ne _ _ hne]
    exact h.1 i x hi
  · rcases h.2 with h2 | ⟨id, h1, h2, h3, h4, h5⟩
    · exact .inl h2
    · exact .inr ⟨id, h1, by rw [Hp.upd_ne _ _ (fun he => hz (by rw [← he]; exact h4))]; exact h2, h3, h4, h5⟩
theorem list_weak {tk : Tok} {xs : List (List AV)} : Weak (.list tk xs) (.list .none xs) := fun G V hr => by
  simp only [Rep] at hr ⊢
  obtain ⟨A, n, c, e, hn, hc, _, hu, ad, ha, hre⟩ := hr
  exact ⟨A, n, c, e, hn, hc, trivial, hu, ad, ha, hre⟩
def noE : E := .mk 0 0 []
theorem nil_weak : Weak (.list .nil []) (.list .none []) := list_weak
theorem noE_weak {e : Int} : Weak (.tup [.agg [.int .i64 0, .int .i64 0, .list .nil []], .int .i64 e]) (.tup [noE.av, .int .i64 e]) := WeakL.tup ⟨_, _, rfl, WeakL.agg ⟨_, _, rfl, Weak.refl _, _, _, rfl, Weak.refl _, _, _, rfl, nil_weak, rfl⟩, _, _, rfl, Weak.refl _, rfl⟩
theorem noE_ok : noE.ok := by simp [noE, E.ok, E.okL]
theorem noEw_weak : Weak (.agg [.int .i64 0, .int .i64 0, .list .nil []]) noE.av := WeakL.agg ⟨_, _, rfl, Weak.refl _, _, _, rfl, Weak.refl _, _, _, rfl, nil_weak, rfl⟩
theorem tup2_weak {a b : AV} {c : AV} (h : Weak a b) : Weak (.tup [a, c]) (.tup [b, c]) := WeakL.tup ⟨_, _, rfl, h, _, _, rfl, Weak.refl _, rfl⟩
/-- A list that a loop's one append has made, round by round. -/
def LstK (H0 : Hp) (sz : Nat) (ty : TypeId) (j : Nat) (k : List Nat) (tk : Tok) (H : Hp) : Prop := H0.Le H ∧ (tk = .nil ∨ ∃ m, tk = .tok ⟨sz, j :: m :: k, ty⟩ ∧ H ⟨sz, j :: m :: k, ty⟩ = some .tok)
theorem LstK.live {H0 H : Hp} {sz : Nat} {ty : TypeId} {j : Nat} {tk : Tok} (h : LstK H0 sz ty j k tk H) : tokLive H sz ty tk := by
  rcases h.2 with rfl | ⟨m, rfl, hm⟩
  · trivial
  · exact ⟨hm, rfl, rfl⟩
theorem LstK.push {H0 H : Hp} {sz : Nat} {ty : TypeId} {j : Nat} {tk : Tok} (h : LstK H0 sz ty j k tk H) (hn : ∀ m, H0 ⟨sz, j :: m :: k, ty⟩ = none) {y : List AV} {ys : List (List AV)} (m : Nat) :
    LstK H0 sz ty j k (tokBy tk (y :: ys) ⟨sz, j :: m :: k, ty⟩) ((killTok H tk).upd ⟨sz, j :: m :: k, ty⟩ (some .tok)) := by
  have hkill : H0.Le (killTok H tk) := by
    rcases h.2 with rfl | ⟨m', rfl, hm⟩
    · exact h.1
    · exact Hp.le_upd h.1 (hn m')
  refine ⟨Hp.le_upd hkill (hn m), .inr ⟨m, ?_, Hp.upd_same _ _ _⟩⟩
  rcases h.2 with rfl | ⟨m', rfl, hm⟩ <;> rfl
theorem LstK.frame {H0 H : Hp} {sz : Nat} {ty : TypeId} {j : Nat} {tk : Tok} (h : LstK H0 sz ty j k tk H) {X : Id} {e : Option Ent} (hX : H0 X = none) (hne : ∀ m, X ≠ ⟨sz, j :: m :: k, ty⟩) : LstK H0 sz ty j k tk (H.upd X e) := by
  refine ⟨Hp.le_upd h.1 hX, h.2.imp id ?_⟩
  rintro ⟨m, rfl, hm⟩
  exact ⟨m, rfl, by rw [Hp.upd_ne _ _ (Ne.symm (hne m))]; exact hm⟩
theorem killTok_keeps {H : Hp} {tk : Tok} {id : Id} {c : List AV} (h : H id = some (.cells c)) (hL : tk = .nil ∨ ∃ i, tk = .tok i ∧ H i = some .tok) : killTok H tk id = some (.cells c) := by
  rcases hL with rfl | ⟨i, rfl, hi⟩
  · exact h
  · show H.upd i none id = _
    rw [Hp.upd_ne _ _ (fun e => by subst e; rw [h] at hi; cases hi)]
    exact h
theorem tokBy_cons {tk : Tok} {y : List AV} {ys : List (List AV)} {id : Id} : tokBy tk (y :: ys) id = .tok id := by cases tk <;> rfl
theorem okL_all : ∀ {l : List E}, (∀ x ∈ l, x.ok) → E.okL l
  | [], _ => trivial
  | x :: l, h => ⟨h x (by simp), okL_all fun y hy => h y (by simp [hy])⟩
theorem mk1_weak {kd id : Int} {a : E} {tk : Tok} : Weak (.agg [.int .i64 kd, .int .i64 id, .list tk [[.int .i64 a.kind, .int .i64 a.id, .list .none (a.kids.map E.cells)]]]) (E.mk kd id [a]).av := by
  have h : [[AV.int .i64 a.kind, .int .i64 a.id, .list .none (a.kids.map E.cells)]] = [a].map E.cells := by simp only [List.map_cons, List.map_nil, E.cells_eq]
  rw [h]
  exact WeakL.agg ⟨_, _, rfl, Weak.refl _, _, _, rfl, Weak.refl _, _, _, rfl, list_weak, rfl⟩
theorem mk2_weak {kd id : Int} {a b : E} {tk : Tok} : Weak (.agg [.int .i64 kd, .int .i64 id, .list tk [[.int .i64 a.kind, .int .i64 a.id, .list .none (a.kids.map E.cells)], [.int .i64 b.kind, .int .i64 b.id, .list .none (b.kids.map E.cells)]]]) (E.mk kd id [a, b]).av := by
  have h : [[AV.int .i64 a.kind, .int .i64 a.id, .list .none (a.kids.map E.cells)], [AV.int .i64 b.kind, .int .i64 b.id, .list .none (b.kids.map E.cells)]] = [a, b].map E.cells := by simp only [List.map_cons, List.map_nil, E.cells_eq]
  rw [h]
  exact WeakL.agg ⟨_, _, rfl, Weak.refl _, _, _, rfl, Weak.refl _, _, _, rfl, list_weak, rfl⟩
theorem E.sh_kid {e : E} (h : e.sh = true) {i : Nat} {x : E} (hx : e.kids[i]? = some x) : x.sh = true := by
  rw [E.sh_eq, Bool.and_eq_true] at h
  exact List.all_eq_true.1 h.2 x (List.mem_of_getElem? hx)
theorem E.sh_loc {e : E} (h : e.sh = true) : e.loc = true := by
  rw [E.sh_eq, Bool.and_eq_true] at h
  exact h.1
theorem dLE_at {tk : Tok} {us : List E} : (dL cE).dec (.list tk (List.map E.cells us)) = some us := dL_at
theorem take_map {α β : Type} (f : α → β) {l : List α} {i : Nat} {x : α} (h : l[i]? = some x) : (l.take (i + 1)).map f = (l.take i).map f ++ [f x] := by
  rw [List.take_add_one, h, List.map_append]
  rfl
theorem E.loc_len {e : E} (h : e.loc = true) : e.kids.length ≤ 4 := by
  unfold E.loc E.want at h
  (repeat' split at h) <;> simp_all <;> grind
def cI : DecC Int where
  dec := fun c => match c with
    | [.raw (.int .i64 n)] => some n
    | _ => none
  enc := fun n => [.int .i64 n]
  sz := 1
  len := fun c x h => by
    split at h
    · rfl
    · cases h
  elen := fun x => rfl
  ok := fun c x h G V hr => by
    split at h
    · cases h
      exact hr
    · cases h
  self := fun x => rfl
@[go_sem] theorem cI_nil {t : Tok} : (dL cI).dec (.list t []) = some [] := rfl
theorem int_get (p : List Int) {i : Nat} (h : i < p.length) : ∃ q, p[i]? = some q ∧ (p.map cI.enc).getD i [] = [.int .i64 q] :=
  ⟨p[i], by simp [h], by simp [List.getD_eq_getElem?_getD, h, cI]⟩
@[go_sem] theorem cI_cons {t : Tok} {n : Int} {l : List (List AV)} : (dL cI).dec (.list t ([.raw (.int .i64 n)] :: l)) = ((dL cI).dec (.list t l)).map (n :: ·) := by
  show decL cI.dec ([.raw (.int .i64 n)] :: l) = (decL cI.dec l).map (n :: ·)
  rw [decL]
  show (some n).bind _ = _
  cases decL cI.dec l <;> rfl
end Go.Proofs.YtkdendaohlnlcaaGreat.Av

/- Whether two expressions, names, steps, units are the same, by the reference. No condition. -/
namespace Go.Proofs.YtkdendaohlnlcaaGreat.Av
set_option linter.unusedVariables false
set_option linter.unusedSimpArgs false
set_option maxRecDepth 4000
set_option maxHeartbeats 1000000
variable {w0 : Base} {k : List Nat} {H : Hp}
def byI (a b : Int) : Int := if a < b then -1 else if b < a then 1 else 0
theorem byI_zero {a b : Int} : byI a b = 0 ↔ a = b := by
  unfold byI
  split
  · omega
  · split <;> omega
mutual
def E.ord : E → E → Int
  | .mk k i ks, e => if byI k e.kind = 0 then (if byI i e.id = 0 then (if byI ks.length e.kids.length = 0 then E.ordL ks e.kids else byI ks.length e.kids.length) else byI i e.id) else byI k e.kind
def E.ordL : List E → List E → Int
  | x :: xs, y :: ys => if E.ord x y = 0 then E.ordL xs ys else E.ord x y
  | _, _ => 0
end
theorem E.ord_eq (a b : E) : a.ord b = if byI a.kind b.kind = 0 then (if byI a.id b.id = 0 then (if byI a.kids.length b.kids.length = 0 then E.ordL a.kids b.kids else byI a.kids.length b.kids.length) else byI a.id b.id) else byI a.kind b.kind := by
  cases a
  rw [E.ord]
  rfl
theorem E.ordL_cons (x y : E) (xs ys : List E) : E.ordL (x :: xs) (y :: ys) = if x.ord y = 0 then E.ordL xs ys else x.ord y := by rw [E.ordL]
theorem E.ordL_nil (l : List E) : E.ordL [] l = 0 := by
  unfold E.ordL
  rfl
mutual
theorem E.ord_zero : ∀ a b : E, a.ord b = 0 ↔ a = b
  | .mk k i ks, b => by
    have hL := E.ordL_zero ks b.kids
    rw [E.ord]
    constructor
    · intro h
      split at h
      · rename_i h1
        split at h
        · rename_i h2
          split at h
          · rename_i h3
            have h1 := byI_zero.1 h1
            have h2 := byI_zero.1 h2
            have h3 := byI_zero.1 h3
            have h4 := (hL (by omega)).1 h
            cases b
            simp only [E.kind, E.id, E.kids] at h1 h2 h4
            rw [h1, h2, h4]
          · exact absurd h (by assumption)
        · exact absurd h (by assumption)
      · exact absurd h (by assumption)
    · intro h
      subst h
      rw [if_pos (show byI k (E.mk k i ks).kind = 0 from byI_zero.2 rfl), if_pos (show byI i (E.mk k i ks).id = 0 from byI_zero.2 rfl), if_pos (show byI ks.length (E.mk k i ks).kids.length = 0 from byI_zero.2 rfl)]
      exact (E.ordL_zero ks ks rfl).2 rfl
theorem E.ordL_zero : ∀ l m : List E, l.length = m.length → (E.ordL l m = 0 ↔ l = m)
  | [], [], _ => by simp [E.ordL]
  | [], y :: m, h => by simp at h
  | x :: l, [], h => by simp at h
  | x :: l, y :: m, h => by
    have h1 := E.ord_zero x y
    have h2 := E.ordL_zero l m (by simpa using h)
    rw [E.ordL_cons]
    constructor
    · intro hh
      split at hh
      · rename_i h3
        rw [h1.1 h3, h2.1 hh]
      · exact absurd hh (by assumption)
    · intro hh
      cases hh
      rw [if_pos (h1.2 rfl)]
      exact h2.2 rfl
end
theorem by_call (a b : Int) : CallAt Tryz.prog w0 k 36 [.int .i64 a, .int .i64 b] H H (.int .i64 (byI a b)) := by
  refine callAt tabOk Spec.no_ok mixed Tryz.func36 rfl rfl Tryz.results36 Tryz.ntmps36 (by simp) [] ?_
  intro hfr t hl ht
  simp only [At, Nat.reduceAdd, List.cons_append, List.nil_append] at ht
  simp (config := {contextual := true, maxSteps := 5000000}) only [go_sem, false_and, Nat.reduceAdd, Nat.reduceLT, Nat.reduceBEq, Nat.reduceSub, Nat.reduceMul, Nat.reduceLeDiff, Int.reduceToNat, Nat.reduceEqDiff, Nat.reduceMod, ht, hl]
  unfold byI
  (repeat' (first | (with_reducible apply And.intro) | (with_reducible intro _))) <;> simp_all <;> omega
def specOr (N : Nat) : Spec := (Spec.no.add 36 (sp2 dI dI (fun _ _ => True) fun a b => .int .i64 (byI a b))).add 20 (sp2 dE dE (fun a _ => a.ok ∧ a.sz < N) fun a b => .int .i64 (a.ord b))
/-- What holds at the head of the loop over the kids. -/
def ordI (a b : E) (R : Int) (H : Hp) (j : Nat) (x : FS) : Prop := ∃ (i : Nat) (c : Int), x.tmps.length = 58 ∧ x.tmps.getD 2 AV.undef = .sptr [.int .i64 a.kind, .int .i64 a.id, .list .none (a.kids.map E.cells)] ∧ x.tmps.getD 3 AV.undef = .sptr [.int .i64 b.kind, .int .i64 b.id, .list .none (b.kids.map E.cells)] ∧ x.tmps.getD 5 AV.undef = .int .i64 c ∧ x.tmps.getD 6 AV.undef = .int .i64 i ∧ x.H = H ∧ i + j = a.kids.length ∧
  (c = 0 → a.kids.length = b.kids.length ∧ R = E.ordL (a.kids.drop i) (b.kids.drop i)) ∧ (c ≠ 0 → R = c)
theorem order_step (N : Nat) (hS : SpecOk Tryz.prog w0 (specOr N)) (a b : E) (hok : a.ok) (hN : a.sz < N + 1) : CallAt Tryz.prog w0 k 20 [a.av, b.av] H H (.int .i64 (a.ord b)) := by
  refine callAt tabOk hS mixed Tryz.func20 rfl rfl Tryz.results20 Tryz.ntmps20 (by simp) [] ?_
  intro hfr t hl ht
  simp only [At, Nat.reduceAdd, List.cons_append, List.nil_append] at ht
  have hlk := E.ok_len hok
  obtain ⟨R, hR⟩ : ∃ R, R = a.ord b := ⟨_, rfl⟩
  rw [← hR]
  rw [E.ord_eq] at hR
  have e00 : ((0 : Int) == 0) = true := rfl
  by_cases h1 : byI a.kind b.kind = 0
  · rw [if_pos h1] at hR
    by_cases h2 : byI a.id b.id = 0
    · rw [if_pos h2] at hR
      by_cases h3 : byI a.kids.length b.kids.length = 0
      · rw [if_pos h3] at hR
        simp (config := {contextual := true, maxSteps := 5000000}) only [go_sem, false_and, Nat.reduceAdd, Nat.reduceLT, Nat.reduceBEq, Nat.reduceSub, Nat.reduceMul, Nat.reduceLeDiff, Int.reduceToNat, Nat.reduceEqDiff, Nat.reduceMod, ht, hl, specOr, h1, h2, h3, e00]
        refine loop_inv tabOk hS mixed [] (ordI a b R H) a.kids.length ⟨0, 0, ?_⟩ ?_
        · simp (config := {contextual := true, maxSteps := 5000000}) only [go_sem, false_and, Nat.reduceAdd, Nat.reduceLT, Nat.reduceBEq, Nat.reduceSub, Nat.reduceMul, Nat.reduceLeDiff, Int.reduceToNat, Nat.reduceEqDiff, Nat.reduceMod, ht, hl]
          exact ⟨rfl, by omega, ⟨(by have := byI_zero.1 h3; omega), hR⟩, fun h => absurd rfl h⟩
        · rintro j ⟨t, n, H2⟩ ⟨i, c, hl, h2', h3', h5, h6, rfl, hij, hz, hnz⟩
          simp only at hl h2' h3' h5 h6
          by_cases hc : c = 0
          · obtain ⟨hlen, hRR⟩ := hz hc
            subst hc
            by_cases hi : i < a.kids.length
            · have hd : decide ((i : Int) < (a.kids.length : Int)) = true := by simp [hi]
              have hw : IntKind.i64.wrap ((i : Int) + 1) = ((i + 1 : Nat) : Int) := by rw [wrap_i64] <;> omega
              have hd2 : decide ((i : Int) < (b.kids.length : Int)) = true := by simp; omega
              obtain ⟨x, hx, hxe⟩ := a.kid hi
              obtain ⟨y, hy, hye⟩ := b.kid (show i < b.kids.length by omega)
              have hxN := E.kid_sz hx
              have hxo := E.ok_kid hok hx
              have hdx : a.kids.drop i = x :: a.kids.drop (i + 1) := by
                obtain ⟨q1, q2⟩ := List.getElem?_eq_some_iff.1 hx
                rw [List.drop_eq_getElem_cons q1, q2]
              have hdy : b.kids.drop i = y :: b.kids.drop (i + 1) := by
                obtain ⟨q1, q2⟩ := List.getElem?_eq_some_iff.1 hy
                rw [List.drop_eq_getElem_cons q1, q2]
              rw [hdx, hdy, E.ordL_cons] at hRR
              simp (config := {contextual := true, maxSteps := 5000000}) only [go_sem, false_and, Nat.reduceAdd, Nat.reduceLT, Nat.reduceBEq, Nat.reduceSub, Nat.reduceMul, Nat.reduceLeDiff, Int.reduceToNat, Nat.reduceEqDiff, Nat.reduceMod, h2', h3', h5, h6, hl, hd, hd2, hxe, hye, hw, specOr, toE_at, e00]
              refine ⟨by kernel_rfl, ⟨by omega, by omega⟩, ⟨by omega, by omega⟩, ⟨hxo, by omega⟩, List.Pairwise.nil, j - 1, by omega, i + 1, x.ord y, ?_⟩
              simp (config := {contextual := true, maxSteps := 5000000}) only [go_sem, false_and, Nat.reduceAdd, Nat.reduceLT, Nat.reduceBEq, Nat.reduceSub, Nat.reduceMul, Nat.reduceLeDiff, Int.reduceToNat, Nat.reduceEqDiff, Nat.reduceMod, h2', h3', h5, h6, hl]
              exact ⟨by omega, fun h => ⟨hlen, by rw [if_pos h] at hRR; exact hRR⟩, fun h => by rw [if_neg h] at hRR; exact hRR⟩
            · have hd : decide ((i : Int) < (a.kids.length : Int)) = false := by simp; omega
              simp (config := {contextual := true, maxSteps := 5000000}) only [go_sem, false_and, Nat.reduceAdd, Nat.reduceLT, Nat.reduceBEq, Nat.reduceSub, Nat.reduceMul, Nat.reduceLeDiff, Int.reduceToNat, Nat.reduceEqDiff, Nat.reduceMod, h2', h3', h5, h6, hl, hd, e00]
              rw [hRR, List.drop_of_length_le (by omega), E.ordL_nil]
          · have hcb : (c == 0) = false := by simpa using hc
            simp (config := {contextual := true, maxSteps := 5000000}) only [go_sem, false_and, Nat.reduceAdd, Nat.reduceLT, Nat.reduceBEq, Nat.reduceSub, Nat.reduceMul, Nat.reduceLeDiff, Int.reduceToNat, Nat.reduceEqDiff, Nat.reduceMod, h2', h3', h5, h6, hl, hcb]
            exact (hnz hc).symm
      · have h3b : (byI a.kids.length b.kids.length == 0) = false := by simpa using h3
        rw [if_neg h3] at hR
        simp (config := {contextual := true, maxSteps := 5000000}) only [go_sem, false_and, Nat.reduceAdd, Nat.reduceLT, Nat.reduceBEq, Nat.reduceSub, Nat.reduceMul, Nat.reduceLeDiff, Int.reduceToNat, Nat.reduceEqDiff, Nat.reduceMod, ht, hl, specOr, h1, h2, h3b, e00]
        refine loop_inv tabOk hS mixed [] (ordI a b R H) a.kids.length ⟨0, byI a.kids.length b.kids.length, ?_⟩ ?_
        · simp (config := {contextual := true, maxSteps := 5000000}) only [go_sem, false_and, Nat.reduceAdd, Nat.reduceLT, Nat.reduceBEq, Nat.reduceSub, Nat.reduceMul, Nat.reduceLeDiff, Int.reduceToNat, Nat.reduceEqDiff, Nat.reduceMod, ht, hl]
          exact ⟨rfl, by omega, fun h => absurd h h3, fun _ => hR⟩
        · rintro j ⟨t, n, H2⟩ ⟨i, c, hl, h2', h3', h5, h6, rfl, hij, hz, hnz⟩
          simp only at hl h2' h3' h5 h6
          by_cases hc : c = 0
          · obtain ⟨hlen, hRR⟩ := hz hc
            subst hc
            by_cases hi : i < a.kids.length
            · have hd : decide ((i : Int) < (a.kids.length : Int)) = true := by simp [hi]
              have hw : IntKind.i64.wrap ((i : Int) + 1) = ((i + 1 : Nat) : Int) := by rw [wrap_i64] <;> omega
              have hd2 : decide ((i : Int) < (b.kids.length : Int)) = true := by simp; omega
              obtain ⟨x, hx, hxe⟩ := a.kid hi
              obtain ⟨y, hy, hye⟩ := b.kid (show i < b.kids.length by omega)
              have hxN := E.kid_sz hx
              have hxo := E.ok_kid hok hx
              have hdx : a.kids.drop i = x :: a.kids.drop (i + 1) := by
                obtain ⟨q1, q2⟩ := List.getElem?_eq_some_iff.1 hx
                rw [List.drop_eq_getElem_cons q1, q2]
              have hdy : b.kids.drop i = y :: b.kids.drop (i + 1) := by
                obtain ⟨q1, q2⟩ := List.getElem?_eq_some_iff.1 hy
                rw [List.drop_eq_getElem_cons q1, q2]
              rw [hdx, hdy, E.ordL_cons] at hRR
              simp (config := {contextual := true, maxSteps := 5000000}) only [go_sem, false_and, Nat.reduceAdd, Nat.reduceLT, Nat.reduceBEq, Nat.reduceSub, Nat.reduceMul, Nat.reduceLeDiff, Int.reduceToNat, Nat.reduceEqDiff, Nat.reduceMod, h2', h3', h5, h6, hl, hd, hd2, hxe, hye, hw, specOr, toE_at, e00]
              refine ⟨by kernel_rfl, ⟨by omega, by omega⟩, ⟨by omega, by omega⟩, ⟨hxo, by omega⟩, List.Pairwise.nil, j - 1, by omega, i + 1, x.ord y, ?_⟩
              simp (config := {contextual := true, maxSteps := 5000000}) only [go_sem, false_and, Nat.reduceAdd, Nat.reduceLT, Nat.reduceBEq, Nat.reduceSub, Nat.reduceMul, Nat.reduceLeDiff, Int.reduceToNat, Nat.reduceEqDiff, Nat.reduceMod, h2', h3', h5, h6, hl]
              exact ⟨by omega, fun h => ⟨hlen, by rw [if_pos h] at hRR; exact hRR⟩, fun h => by rw [if_neg h] at hRR; exact hRR⟩
            · have hd : decide ((i : Int) < (a.kids.length : Int)) = false := by simp; omega
              simp (config := {contextual := true, maxSteps := 5000000}) only [go_sem, false_and, Nat.reduceAdd, Nat.reduceLT, Nat.reduceBEq, Nat.reduceSub, Nat.reduceMul, Nat.reduceLeDiff, Int.reduceToNat, Nat.reduceEqDiff, Nat.reduceMod, h2', h3', h5, h6, hl, hd, e00]
              rw [hRR, List.drop_of_length_le (by omega), E.ordL_nil]
          · have hcb : (c == 0) = false := by simpa using hc
            simp (config := {contextual := true, maxSteps := 5000000}) only [go_sem, false_and, Nat.reduceAdd, Nat.reduceLT, Nat.reduceBEq, Nat.reduceSub, Nat.reduceMul, Nat.reduceLeDiff, Int.reduceToNat, Nat.reduceEqDiff, Nat.reduceMod, h2', h3', h5, h6, hl, hcb]
            exact (hnz hc).symm
    · have h2b : (byI a.id b.id == 0) = false := by simpa using h2
      rw [if_neg h2] at hR
      simp (config := {contextual := true, maxSteps := 5000000}) only [go_sem, false_and, Nat.reduceAdd, Nat.reduceLT, Nat.reduceBEq, Nat.reduceSub, Nat.reduceMul, Nat.reduceLeDiff, Int.reduceToNat, Nat.reduceEqDiff, Nat.reduceMod, ht, hl, specOr, h1, h2b, e00]
      refine loop_inv tabOk hS mixed [] (ordI a b R H) a.kids.length ⟨0, byI a.id b.id, ?_⟩ ?_
      · simp (config := {contextual := true, maxSteps := 5000000}) only [go_sem, false_and, Nat.reduceAdd, Nat.reduceLT, Nat.reduceBEq, Nat.reduceSub, Nat.reduceMul, Nat.reduceLeDiff, Int.reduceToNat, Nat.reduceEqDiff, Nat.reduceMod, ht, hl, ordI]
        exact ⟨rfl, by omega, fun h => absurd h h2, fun _ => hR⟩
      · rintro j ⟨t, n, H2⟩ ⟨i, c, hl, h2', h3', h5, h6, rfl, hij, hz, hnz⟩
        simp only at hl h2' h3' h5 h6
        by_cases hc : c = 0
        · obtain ⟨hlen, hRR⟩ := hz hc
          subst hc
          by_cases hi : i < a.kids.length
          · have hd : decide ((i : Int) < (a.kids.length : Int)) = true := by simp [hi]
            have hw : IntKind.i64.wrap ((i : Int) + 1) = ((i + 1 : Nat) : Int) := by rw [wrap_i64] <;> omega
            have hd2 : decide ((i : Int) < (b.kids.length : Int)) = true := by simp; omega
            obtain ⟨x, hx, hxe⟩ := a.kid hi
            obtain ⟨y, hy, hye⟩ := b.kid (show i < b.kids.length by omega)
            have hxN := E.kid_sz hx
            have hxo := E.ok_kid hok hx
            have hdx : a.kids.drop i = x :: a.kids.drop (i + 1) := by
              obtain ⟨q1, q2⟩ := List.getElem?_eq_some_iff.1 hx
              rw [List.drop_eq_getElem_cons q1, q2]
            have hdy : b.kids.drop i = y :: b.kids.drop (i + 1) := by
              obtain ⟨q1, q2⟩ := List.getElem?_eq_some_iff.1 hy
              rw [List.drop_eq_getElem_cons q1, q2]
            rw [hdx, hdy, E.ordL_cons] at hRR
            simp (config := {contextual := true, maxSteps := 5000000}) only [go_sem, false_and, Nat.reduceAdd, Nat.reduceLT, Nat.reduceBEq, Nat.reduceSub, Nat.reduceMul, Nat.reduceLeDiff, Int.reduceToNat, Nat.reduceEqDiff, Nat.reduceMod, h2', h3', h5, h6, hl, hd, hd2, hxe, hye, hw, specOr, toE_at, e00]
            refine ⟨by kernel_rfl, ⟨by omega, by omega⟩, ⟨by omega, by omega⟩, ⟨hxo, by omega⟩, List.Pairwise.nil, j - 1, by omega, i + 1, x.ord y, ?_⟩
            simp (config := {contextual := true, maxSteps := 5000000}) only [go_sem, false_and, Nat.reduceAdd, Nat.reduceLT, Nat.reduceBEq, Nat.reduceSub, Nat.reduceMul, Nat.reduceLeDiff, Int.reduceToNat, Nat.reduceEqDiff, Nat.reduceMod, h2', h3', h5, h6, hl]
            exact ⟨by omega, fun h => ⟨hlen, by rw [if_pos h] at hRR; exact hRR⟩, fun h => by rw [if_neg h] at hRR; exact hRR⟩
          · have hd : decide ((i : Int) < (a.kids.length : Int)) = false := by simp; omega
            simp (config := {contextual := true, maxSteps := 5000000}) only [go_sem, false_and, Nat.reduceAdd, Nat.reduceLT, Nat.reduceBEq, Nat.reduceSub, Nat.reduceMul, Nat.reduceLeDiff, Int.reduceToNat, Nat.reduceEqDiff, Nat.reduceMod, h2', h3', h5, h6, hl, hd, e00]
            rw [hRR, List.drop_of_length_le (by omega), E.ordL_nil]
        · have hcb : (c == 0) = false := by simpa using hc
          simp (config := {contextual := true, maxSteps := 5000000}) only [go_sem, false_and, Nat.reduceAdd, Nat.reduceLT, Nat.reduceBEq, Nat.reduceSub, Nat.reduceMul, Nat.reduceLeDiff, Int.reduceToNat, Nat.reduceEqDiff, Nat.reduceMod, h2', h3', h5, h6, hl, hcb]
          exact (hnz hc).symm
  · have h1b : (byI a.kind b.kind == 0) = false := by simpa using h1
    rw [if_neg h1] at hR
    simp (config := {contextual := true, maxSteps := 5000000}) only [go_sem, false_and, Nat.reduceAdd, Nat.reduceLT, Nat.reduceBEq, Nat.reduceSub, Nat.reduceMul, Nat.reduceLeDiff, Int.reduceToNat, Nat.reduceEqDiff, Nat.reduceMod, ht, hl, specOr, h1b, e00]
    refine loop_inv tabOk hS mixed [] (ordI a b R H) a.kids.length ⟨0, byI a.kind b.kind, ?_⟩ ?_
    · simp (config := {contextual := true, maxSteps := 5000000}) only [go_sem, false_and, Nat.reduceAdd, Nat.reduceLT, Nat.reduceBEq, Nat.reduceSub, Nat.reduceMul, Nat.reduceLeDiff, Int.reduceToNat, Nat.reduceEqDiff, Nat.reduceMod, ht, hl]
      exact ⟨rfl, by omega, fun h => absurd h h1, fun _ => hR⟩
    · rintro j ⟨t, n, H2⟩ ⟨i, c, hl, h2', h3', h5, h6, rfl, hij, hz, hnz⟩
      simp only at hl h2' h3' h5 h6
      by_cases hc : c = 0
      · obtain ⟨hlen, hRR⟩ := hz hc
        subst hc
        by_cases hi : i < a.kids.length
        · have hd : decide ((i : Int) < (a.kids.length : Int)) = true := by simp [hi]
          have hw : IntKind.i64.wrap ((i : Int) + 1) = ((i + 1 : Nat) : Int) := by rw [wrap_i64] <;> omega
          have hd2 : decide ((i : Int) < (b.kids.length : Int)) = true := by simp; omega
          obtain ⟨x, hx, hxe⟩ := a.kid hi
          obtain ⟨y, hy, hye⟩ := b.kid (show i < b.kids.length by omega)
          have hxN := E.kid_sz hx
          have hxo := E.ok_kid hok hx
          have hdx : a.kids.drop i = x :: a.kids.drop (i + 1) := by
            obtain ⟨q1, q2⟩ := List.getElem?_eq_some_iff.1 hx
            rw [List.drop_eq_getElem_cons q1, q2]
          have hdy : b.kids.drop i = y :: b.kids.drop (i + 1) := by
            obtain ⟨q1, q2⟩ := List.getElem?_eq_some_iff.1 hy
            rw [List.drop_eq_getElem_cons q1, q2]
          rw [hdx, hdy, E.ordL_cons] at hRR
          simp (config := {contextual := true, maxSteps := 5000000}) only [go_sem, false_and, Nat.reduceAdd, Nat.reduceLT, Nat.reduceBEq, Nat.reduceSub, Nat.reduceMul, Nat.reduceLeDiff, Int.reduceToNat, Nat.reduceEqDiff, Nat.reduceMod, h2', h3', h5, h6, hl, hd, hd2, hxe, hye, hw, specOr, toE_at, e00]
          refine ⟨by kernel_rfl, ⟨by omega, by omega⟩, ⟨by omega, by omega⟩, ⟨hxo, by omega⟩, List.Pairwise.nil, j - 1, by omega, i + 1, x.ord y, ?_⟩
          simp (config := {contextual := true, maxSteps := 5000000}) only [go_sem, false_and, Nat.reduceAdd, Nat.reduceLT, Nat.reduceBEq, Nat.reduceSub, Nat.reduceMul, Nat.reduceLeDiff, Int.reduceToNat, Nat.reduceEqDiff, Nat.reduceMod, h2', h3', h5, h6, hl]
          exact ⟨by omega, fun h => ⟨hlen, by rw [if_pos h] at hRR; exact hRR⟩, fun h => by rw [if_neg h] at hRR; exact hRR⟩
        · have hd : decide ((i : Int) < (a.kids.length : Int)) = false := by simp; omega
          simp (config := {contextual := true, maxSteps := 5000000}) only [go_sem, false_and, Nat.reduceAdd, Nat.reduceLT, Nat.reduceBEq, Nat.reduceSub, Nat.reduceMul, Nat.reduceLeDiff, Int.reduceToNat, Nat.reduceEqDiff, Nat.reduceMod, h2', h3', h5, h6, hl, hd, e00]
          rw [hRR, List.drop_of_length_le (by omega), E.ordL_nil]
      · have hcb : (c == 0) = false := by simpa using hc
        simp (config := {contextual := true, maxSteps := 5000000}) only [go_sem, false_and, Nat.reduceAdd, Nat.reduceLT, Nat.reduceBEq, Nat.reduceSub, Nat.reduceMul, Nat.reduceLeDiff, Int.reduceToNat, Nat.reduceEqDiff, Nat.reduceMod, h2', h3', h5, h6, hl, hcb]
        exact (hnz hc).symm
theorem specOr_ok : ∀ N, SpecOk Tryz.prog w0 (specOr N)
  | 0 => (Spec.no_ok.add (sp2_ok fun a b _ k H => by_call a b)).add (sp2_ok fun a b h => by omega)
  | N + 1 => (Spec.no_ok.add (sp2_ok fun a b _ k H => by_call a b)).add (sp2_ok fun a b h k H => order_step N (specOr_ok N) a b h.1 h.2)
theorem order_call (a b : E) (hok : a.ok) : CallAt Tryz.prog w0 k 20 [a.av, b.av] H H (.int .i64 (a.ord b)) := order_step a.sz (specOr_ok _) a b hok (Nat.lt_succ_self _)
def specLi : Spec := Spec.no.add 20 (sp2 dE dE (fun a _ => a.ok) fun a b => .int .i64 (a.ord b))
theorem specLi_ok : SpecOk Tryz.prog w0 specLi := Spec.no_ok.add (sp2_ok fun a b h k H => order_call a b h)
def E.like (a b : E) : Bool := a.ord b == 0
theorem E.like_iff {a b : E} : a.like b = true ↔ a = b := by
  unfold E.like
  rw [beq_iff_eq]
  exact E.ord_zero a b
theorem like02_call (a b : E) (hok : a.ok) : CallAt Tryz.prog w0 k 12 [a.av, b.av] H H (.bool (a.like b)) := by
  refine callAt tabOk specLi_ok mixed Tryz.func12 rfl rfl Tryz.results12 Tryz.ntmps12 (by simp) [] ?_
  intro hfr t hl ht
  simp only [At, Nat.reduceAdd, List.cons_append, List.nil_append] at ht
  simp (config := {contextual := true, maxSteps := 5000000}) only [go_sem, false_and, Nat.reduceAdd, Nat.reduceLT, Nat.reduceBEq, Nat.reduceSub, Nat.reduceMul, Nat.reduceLeDiff, Int.reduceToNat, Nat.reduceEqDiff, Nat.reduceMod, ht, hl, specLi, toE_at]
  exact ⟨hok, rfl⟩
end Go.Proofs.YtkdendaohlnlcaaGreat.Av

/- What the functions of the reference of layer 4 answer. No condition. -/
namespace Go.Proofs.YtkdendaohlnlcaaGreat.Av
set_option linter.unusedVariables false
set_option linter.unusedSimpArgs false
set_option maxRecDepth 4000
set_option maxHeartbeats 1000000
variable {w0 : Base} {k : List Nat} {H : Hp}
theorem quant_call (e : E) : CallAt Tryz.prog w0 k 128 [e.av] H H (.bool (isQ e.kind)) := by
  refine callAt tabOk Spec.no_ok mixed Tryz.func128 rfl rfl Tryz.results128 Tryz.ntmps128 (by simp) [] ?_
  intro hfr t hl ht
  simp only [At, Nat.reduceAdd, List.cons_append, List.nil_append] at ht
  simp (config := {contextual := true, maxSteps := 5000000}) only [go_sem, false_and, Nat.reduceAdd, Nat.reduceLT, Nat.reduceBEq, Nat.reduceSub, Nat.reduceMul, Nat.reduceLeDiff, Int.reduceToNat, Nat.reduceEqDiff, Nat.reduceMod, ht, hl]
  unfold isQ
  cases h : e.kind == 7 <;> simp
def specB4 : Spec := (((specW4.add 109 (sp2 dW dW (fun a b => a < 18446744073709551616 ∧ b < 18446744073709551616) fun a b => .int .u64 ((a ||| b : Nat) : Int))).add 137 (sp2 dW dI (fun s _ => s < 18446744073709551616) fun s n => .int .u64 ((clr s n : Nat) : Int)))).add
  128 (sp1 dE (fun _ => True) fun e => .bool (isQ e.kind))
theorem specB4_ok : SpecOk Tryz.prog w0 specB4 := ((specW4_ok.add (sp2_ok fun a b h k H => union_call a b h.1 h.2)).add (sp2_ok fun s n h k H => without01_call s n h)).add (sp1_ok fun e _ k H => quant_call e)
def specOF (N : Nat) : Spec := specB4.add 123 (sp1 dE (fun e => e.ok ∧ e.sz < N) fun e => .int .u64 ((e.fv : Nat) : Int))
theorem ofFree_step (N : Nat) (hS : SpecOk Tryz.prog w0 (specOF N)) (e : E) (hok : e.ok) (hN : e.sz < N + 1) : CallAt Tryz.prog w0 k 123 [e.av] H H (.int .u64 ((e.fv : Nat) : Int)) := by
  refine callAt tabOk hS mixed Tryz.func123 rfl rfl Tryz.results123 Tryz.ntmps123 (by simp) [] ?_
  intro hfr t hl ht
  simp only [At, Nat.reduceAdd, List.cons_append, List.nil_append] at ht
  have fN : ∀ (a b : Nat) z ty, H ⟨z, a :: b :: k, ty⟩ = none := fun a b z ty => hfr _ (sfx2 _ _ _)
  have hlen := E.ok_len hok
  rw [E.fv_eq]
  by_cases h1 : e.kind = 1
  · have hk : (e.kind == 1) = true := by simpa using h1
    rw [if_pos h1]
    simp (config := {contextual := true, maxSteps := 5000000}) only [go_sem, false_and, Nat.reduceAdd, Nat.reduceLT, Nat.reduceBEq, Nat.reduceSub, Nat.reduceMul, Nat.reduceLeDiff, Int.reduceToNat, Nat.reduceEqDiff, Nat.reduceMod, ht, hl, specOF, specB4, specW4, specW3, specW2, hk]
  have hk : (e.kind == 1) = false := by simpa using h1
  rw [if_neg h1]
  simp (config := {contextual := true, maxSteps := 5000000}) only [go_sem, false_and, Nat.reduceAdd, Nat.reduceLT, Nat.reduceBEq, Nat.reduceSub, Nat.reduceMul, Nat.reduceLeDiff, Int.reduceToNat, Nat.reduceEqDiff, Nat.reduceMod, ht, hl, hk]
  refine loop_inv tabOk hS mixed [] (fun j x => ∃ i : Nat, x.tmps.length = 31 ∧ x.tmps.getD 1 AV.undef = .sptr [.int .i64 e.kind, .int .i64 e.id, .list .none (e.kids.map E.cells)] ∧ x.tmps.getD 3 AV.undef = .int .u64 (( E.fvL (e.kids.take i) : Nat) : Int) ∧ x.tmps.getD 13 AV.undef = .list .none (e.kids.map E.cells) ∧ x.tmps.getD 14 AV.undef = .int .i64 e.kids.length ∧ x.tmps.getD 15 AV.undef = .int .i64 i ∧ H.Le x.H ∧ i + j = e.kids.length) e.kids.length ⟨0, ?_⟩ ?_
  · simp (config := {contextual := true, maxSteps := 5000000}) only [go_sem, false_and, Nat.reduceAdd, Nat.reduceLT, Nat.reduceBEq, Nat.reduceSub, Nat.reduceMul, Nat.reduceLeDiff, Int.reduceToNat, Nat.reduceEqDiff, Nat.reduceMod, ht, hl, hk]
    simp [E.fvL, Hp.Le.refl]
  · rintro j ⟨t, m, H'⟩ ⟨i, hl, gb, ga, g1, g2, g3, hH, hij⟩
    simp only at hl gb ga g1 g2 g3 hH
    by_cases hi : i < e.kids.length
    · have hd : decide ((i : Int) < (e.kids.length : Int)) = true := by simp [hi]
      have hw2 : IntKind.i64.wrap ((i : Int) + 1) = ((i + 1 : Nat) : Int) := by rw [wrap_i64] <;> omega
      obtain ⟨x, hx, hex⟩ := E.kid e hi
      have htk := E.fvL_take e.kids i x hx
      have l1 : ( E.fvL (e.kids.take i) : Nat) < 18446744073709551616 := E.fvL_lt _
      have l2 := x.fv_lt
      have hxs : x.sz < N := by have := E.kid_sz hx; omega
      simp (config := {contextual := true, maxSteps := 5000000}) only [go_sem, false_and, Nat.reduceAdd, Nat.reduceLT, Nat.reduceBEq, Nat.reduceSub, Nat.reduceMul, Nat.reduceLeDiff, Int.reduceToNat, Nat.reduceEqDiff, Nat.reduceMod, hex, specOF, specB4, specW4, specW3, specW2, gb, ga, g1, g2, g3, hl, hd, hw2]
      refine ⟨⟨by omega, by omega⟩, ⟨E.ok_kid hok hx, hxs⟩, ⟨l1, l2⟩, j - 1, by omega, i + 1, ?_, rfl, Hp.le_upd hH (fN _ _ _ _), by omega⟩
      rw [htk]
    · have hd : decide ((i : Int) < (e.kids.length : Int)) = false := by simp; omega
      have hall : E.fvL (e.kids.take i) = E.fvL e.kids := by rw [List.take_of_length_le (by omega)]
      rw [hall] at ga
      have l1 := E.fvL_lt e.kids
      cases hq : isQ e.kind
      · simp (config := {contextual := true, maxSteps := 5000000}) only [go_sem, false_and, Nat.reduceAdd, Nat.reduceLT, Nat.reduceBEq, Nat.reduceSub, Nat.reduceMul, Nat.reduceLeDiff, Int.reduceToNat, Nat.reduceEqDiff, Nat.reduceMod, specOF, specB4, specW4, specW3, specW2, gb, ga, g1, g2, g3, hl, hd, hq]
        simp [hH]
      · simp (config := {contextual := true, maxSteps := 5000000}) only [go_sem, false_and, Nat.reduceAdd, Nat.reduceLT, Nat.reduceBEq, Nat.reduceSub, Nat.reduceMul, Nat.reduceLeDiff, Int.reduceToNat, Nat.reduceEqDiff, Nat.reduceMod, specOF, specB4, specW4, specW3, specW2, gb, ga, g1, g2, g3, hl, hd, hq]
        exact ⟨l1, hH⟩
theorem specOF_ok : ∀ N, SpecOk Tryz.prog w0 (specOF N)
  | 0 => specB4_ok.add (sp1_ok fun e h => by omega)
  | N + 1 => specB4_ok.add (sp1_ok fun e h k H => ofFree_step N (specOF_ok N) e h.1 h.2)
theorem ofFree_call (e : E) (hok : e.ok) : CallAt Tryz.prog w0 k 123 [e.av] H H (.int .u64 ((e.fv : Nat) : Int)) := ofFree_step e.sz (specOF_ok _) e hok (Nat.lt_succ_self _)
def specOO (N : Nat) : Spec := specB4.add 126 (sp1 dE (fun e => e.ok ∧ e.sz < N) fun e => .int .u64 ((e.ov : Nat) : Int))
theorem occur_step (N : Nat) (hS : SpecOk Tryz.prog w0 (specOO N)) (e : E) (hok : e.ok) (hN : e.sz < N + 1) : CallAt Tryz.prog w0 k 126 [e.av] H H (.int .u64 ((e.ov : Nat) : Int)) := by
  refine callAt tabOk hS mixed Tryz.func126 rfl rfl Tryz.results126 Tryz.ntmps126 (by simp) [] ?_
  intro hfr t hl ht
  simp only [At, Nat.reduceAdd, List.cons_append, List.nil_append] at ht
  have fN : ∀ (a b : Nat) z ty, H ⟨z, a :: b :: k, ty⟩ = none := fun a b z ty => hfr _ (sfx2 _ _ _)
  have hlen := E.ok_len hok
  rw [E.ov_eq]
  by_cases h1 : e.kind = 1
  · have hk : (e.kind == 1) = true := by simpa using h1
    rw [if_pos h1]
    simp (config := {contextual := true, maxSteps := 5000000}) only [go_sem, false_and, Nat.reduceAdd, Nat.reduceLT, Nat.reduceBEq, Nat.reduceSub, Nat.reduceMul, Nat.reduceLeDiff, Int.reduceToNat, Nat.reduceEqDiff, Nat.reduceMod, ht, hl, specOO, specB4, specW4, specW3, specW2, hk]
  have hk : (e.kind == 1) = false := by simpa using h1
  rw [if_neg h1]
  simp (config := {contextual := true, maxSteps := 5000000}) only [go_sem, false_and, Nat.reduceAdd, Nat.reduceLT, Nat.reduceBEq, Nat.reduceSub, Nat.reduceMul, Nat.reduceLeDiff, Int.reduceToNat, Nat.reduceEqDiff, Nat.reduceMod, ht, hl, hk]
  refine loop_inv tabOk hS mixed [] (fun j x => ∃ i : Nat, x.tmps.length = 25 ∧ x.tmps.getD 1 AV.undef = .sptr [.int .i64 e.kind, .int .i64 e.id, .list .none (e.kids.map E.cells)] ∧ x.tmps.getD 3 AV.undef = .int .u64 (( E.ovL (e.kids.take i) : Nat) : Int) ∧ x.tmps.getD 13 AV.undef = .list .none (e.kids.map E.cells) ∧ x.tmps.getD 14 AV.undef = .int .i64 e.kids.length ∧ x.tmps.getD 15 AV.undef = .int .i64 i ∧ H.Le x.H ∧ i + j = e.kids.length) e.kids.length ⟨0, ?_⟩ ?_
  · simp (config := {contextual := true, maxSteps := 5000000}) only [go_sem, false_and, Nat.reduceAdd, Nat.reduceLT, Nat.reduceBEq, Nat.reduceSub, Nat.reduceMul, Nat.reduceLeDiff, Int.reduceToNat, Nat.reduceEqDiff, Nat.reduceMod, ht, hl, hk]
    simp [E.ovL, Hp.Le.refl]
  · rintro j ⟨t, m, H'⟩ ⟨i, hl, gb, ga, g1, g2, g3, hH, hij⟩
    simp only at hl gb ga g1 g2 g3 hH
    by_cases hi : i < e.kids.length
    · have hd : decide ((i : Int) < (e.kids.length : Int)) = true := by simp [hi]
      have hw2 : IntKind.i64.wrap ((i : Int) + 1) = ((i + 1 : Nat) : Int) := by rw [wrap_i64] <;> omega
      obtain ⟨x, hx, hex⟩ := E.kid e hi
      have htk := E.ovL_take e.kids i x hx
      have l1 : ( E.ovL (e.kids.take i) : Nat) < 18446744073709551616 := E.ovL_lt _
      have l2 := x.ov_lt
      have hxs : x.sz < N := by have := E.kid_sz hx; omega
      simp (config := {contextual := true, maxSteps := 5000000}) only [go_sem, false_and, Nat.reduceAdd, Nat.reduceLT, Nat.reduceBEq, Nat.reduceSub, Nat.reduceMul, Nat.reduceLeDiff, Int.reduceToNat, Nat.reduceEqDiff, Nat.reduceMod, hex, specOO, specB4, specW4, specW3, specW2, gb, ga, g1, g2, g3, hl, hd, hw2]
      refine ⟨⟨by omega, by omega⟩, ⟨E.ok_kid hok hx, hxs⟩, ⟨l1, l2⟩, j - 1, by omega, i + 1, ?_, rfl, Hp.le_upd hH (fN _ _ _ _), by omega⟩
      rw [htk]
    · have hd : decide ((i : Int) < (e.kids.length : Int)) = false := by simp; omega
      have hall : E.ovL (e.kids.take i) = E.ovL e.kids := by rw [List.take_of_length_le (by omega)]
      rw [hall] at ga
      simp (config := {contextual := true, maxSteps := 5000000}) only [go_sem, false_and, Nat.reduceAdd, Nat.reduceLT, Nat.reduceBEq, Nat.reduceSub, Nat.reduceMul, Nat.reduceLeDiff, Int.reduceToNat, Nat.reduceEqDiff, Nat.reduceMod, specOO, specB4, specW4, specW3, specW2, gb, ga, g1, g2, g3, hl, hd]
      exact hH
theorem specOO_ok : ∀ N, SpecOk Tryz.prog w0 (specOO N)
  | 0 => specB4_ok.add (sp1_ok fun e h => by omega)
  | N + 1 => specB4_ok.add (sp1_ok fun e h k H => occur_step N (specOO_ok N) e h.1 h.2)
theorem occur_call (e : E) (hok : e.ok) : CallAt Tryz.prog w0 k 126 [e.av] H H (.int .u64 ((e.ov : Nat) : Int)) := occur_step e.sz (specOO_ok _) e hok (Nat.lt_succ_self _)
def specOB (N : Nat) : Spec := specB4.add 127 (sp1 dE (fun e => e.ok ∧ e.sz < N) fun e => .int .u64 ((e.bv : Nat) : Int))
theorem ofBound_step (N : Nat) (hS : SpecOk Tryz.prog w0 (specOB N)) (e : E) (hok : e.ok) (hN : e.sz < N + 1) : CallAt Tryz.prog w0 k 127 [e.av] H H (.int .u64 ((e.bv : Nat) : Int)) := by
  refine callAt tabOk hS mixed Tryz.func127 rfl rfl Tryz.results127 Tryz.ntmps127 (by simp) [] ?_
  intro hfr t hl ht
  simp only [At, Nat.reduceAdd, List.cons_append, List.nil_append] at ht
  have fN : ∀ (a b : Nat) z ty, H ⟨z, a :: b :: k, ty⟩ = none := fun a b z ty => hfr _ (sfx2 _ _ _)
  have hlen := E.ok_len hok
  rw [E.bv_eq]
  have hk : True := trivial
  cases hq : isQ e.kind
  · simp (config := {contextual := true, maxSteps := 5000000}) only [go_sem, false_and, Nat.reduceAdd, Nat.reduceLT, Nat.reduceBEq, Nat.reduceSub, Nat.reduceMul, Nat.reduceLeDiff, Int.reduceToNat, Nat.reduceEqDiff, Nat.reduceMod, ht, hl, specOB, specB4, specW4, specW3, specW2, hq]
    refine loop_inv tabOk hS mixed [] (fun j x => ∃ i : Nat, x.tmps.length = 24 ∧ x.tmps.getD 1 AV.undef = .sptr [.int .i64 e.kind, .int .i64 e.id, .list .none (e.kids.map E.cells)] ∧ x.tmps.getD 3 AV.undef = .int .u64 (( E.bvL (e.kids.take i) : Nat) : Int) ∧ x.tmps.getD 12 AV.undef = .list .none (e.kids.map E.cells) ∧ x.tmps.getD 13 AV.undef = .int .i64 e.kids.length ∧ x.tmps.getD 14 AV.undef = .int .i64 i ∧ H.Le x.H ∧ i + j = e.kids.length) e.kids.length ⟨0, ?_⟩ ?_
    · simp (config := {contextual := true, maxSteps := 5000000}) only [go_sem, false_and, Nat.reduceAdd, Nat.reduceLT, Nat.reduceBEq, Nat.reduceSub, Nat.reduceMul, Nat.reduceLeDiff, Int.reduceToNat, Nat.reduceEqDiff, Nat.reduceMod, ht, hl]
      simp [E.bvL, Hp.Le.refl]
    · rintro j ⟨t, m, H'⟩ ⟨i, hl, gb, ga, g1, g2, g3, hH, hij⟩
      simp only at hl gb ga g1 g2 g3 hH
      by_cases hi : i < e.kids.length
      · have hd : decide ((i : Int) < (e.kids.length : Int)) = true := by simp [hi]
        have hw2 : IntKind.i64.wrap ((i : Int) + 1) = ((i + 1 : Nat) : Int) := by rw [wrap_i64] <;> omega
        obtain ⟨x, hx, hex⟩ := E.kid e hi
        have htk := E.bvL_take e.kids i x hx
        have l1 : ( E.bvL (e.kids.take i) : Nat) < 18446744073709551616 := E.bvL_lt _
        have l2 := x.bv_lt
        have hxs : x.sz < N := by have := E.kid_sz hx; omega
        simp (config := {contextual := true, maxSteps := 5000000}) only [go_sem, false_and, Nat.reduceAdd, Nat.reduceLT, Nat.reduceBEq, Nat.reduceSub, Nat.reduceMul, Nat.reduceLeDiff, Int.reduceToNat, Nat.reduceEqDiff, Nat.reduceMod, hex, specOB, specB4, specW4, specW3, specW2, gb, ga, g1, g2, g3, hl, hd, hw2]
        refine ⟨⟨by omega, by omega⟩, ⟨E.ok_kid hok hx, hxs⟩, ⟨l1, l2⟩, j - 1, by omega, i + 1, ?_, rfl, Hp.le_upd hH (fN _ _ _ _), by omega⟩
        rw [htk]
      · have hd : decide ((i : Int) < (e.kids.length : Int)) = false := by simp; omega
        have hall : E.bvL (e.kids.take i) = E.bvL e.kids := by rw [List.take_of_length_le (by omega)]
        rw [hall] at ga
        simp (config := {contextual := true, maxSteps := 5000000}) only [go_sem, false_and, Nat.reduceAdd, Nat.reduceLT, Nat.reduceBEq, Nat.reduceSub, Nat.reduceMul, Nat.reduceLeDiff, Int.reduceToNat, Nat.reduceEqDiff, Nat.reduceMod, specOB, specB4, specW4, specW3, specW2, gb, ga, g1, g2, g3, hl, hd]
        simp [hH]
  · simp (config := {contextual := true, maxSteps := 5000000}) only [go_sem, false_and, Nat.reduceAdd, Nat.reduceLT, Nat.reduceBEq, Nat.reduceSub, Nat.reduceMul, Nat.reduceLeDiff, Int.reduceToNat, Nat.reduceEqDiff, Nat.reduceMod, ht, hl, specOB, specB4, specW4, specW3, specW2, hq]
    refine loop_inv tabOk hS mixed [] (fun j x => ∃ i : Nat, x.tmps.length = 24 ∧ x.tmps.getD 1 AV.undef = .sptr [.int .i64 e.kind, .int .i64 e.id, .list .none (e.kids.map E.cells)] ∧ x.tmps.getD 3 AV.undef = .int .u64 ((bitv e.id ||| E.bvL (e.kids.take i) : Nat) : Int) ∧ x.tmps.getD 12 AV.undef = .list .none (e.kids.map E.cells) ∧ x.tmps.getD 13 AV.undef = .int .i64 e.kids.length ∧ x.tmps.getD 14 AV.undef = .int .i64 i ∧ H.Le x.H ∧ i + j = e.kids.length) e.kids.length ⟨0, ?_⟩ ?_
    · simp (config := {contextual := true, maxSteps := 5000000}) only [go_sem, false_and, Nat.reduceAdd, Nat.reduceLT, Nat.reduceBEq, Nat.reduceSub, Nat.reduceMul, Nat.reduceLeDiff, Int.reduceToNat, Nat.reduceEqDiff, Nat.reduceMod, ht, hl]
      simp [E.bvL, Hp.Le.refl]
    · rintro j ⟨t, m, H'⟩ ⟨i, hl, gb, ga, g1, g2, g3, hH, hij⟩
      simp only at hl gb ga g1 g2 g3 hH
      by_cases hi : i < e.kids.length
      · have hd : decide ((i : Int) < (e.kids.length : Int)) = true := by simp [hi]
        have hw2 : IntKind.i64.wrap ((i : Int) + 1) = ((i + 1 : Nat) : Int) := by rw [wrap_i64] <;> omega
        obtain ⟨x, hx, hex⟩ := E.kid e hi
        have htk := E.bvL_take e.kids i x hx
        have l1 : (bitv e.id ||| E.bvL (e.kids.take i) : Nat) < 18446744073709551616 := or_lt (bitv_lt _) (E.bvL_lt _)
        have l2 := x.bv_lt
        have hxs : x.sz < N := by have := E.kid_sz hx; omega
        simp (config := {contextual := true, maxSteps := 5000000}) only [go_sem, false_and, Nat.reduceAdd, Nat.reduceLT, Nat.reduceBEq, Nat.reduceSub, Nat.reduceMul, Nat.reduceLeDiff, Int.reduceToNat, Nat.reduceEqDiff, Nat.reduceMod, hex, specOB, specB4, specW4, specW3, specW2, gb, ga, g1, g2, g3, hl, hd, hw2]
        refine ⟨⟨by omega, by omega⟩, ⟨E.ok_kid hok hx, hxs⟩, ⟨l1, l2⟩, j - 1, by omega, i + 1, ?_, rfl, Hp.le_upd hH (fN _ _ _ _), by omega⟩
        rw [htk, Nat.or_assoc]
      · have hd : decide ((i : Int) < (e.kids.length : Int)) = false := by simp; omega
        have hall : E.bvL (e.kids.take i) = E.bvL e.kids := by rw [List.take_of_length_le (by omega)]
        rw [hall] at ga
        simp (config := {contextual := true, maxSteps := 5000000}) only [go_sem, false_and, Nat.reduceAdd, Nat.reduceLT, Nat.reduceBEq, Nat.reduceSub, Nat.reduceMul, Nat.reduceLeDiff, Int.reduceToNat, Nat.reduceEqDiff, Nat.reduceMod, specOB, specB4, specW4, specW3, specW2, gb, ga, g1, g2, g3, hl, hd]
        exact hH
theorem specOB_ok : ∀ N, SpecOk Tryz.prog w0 (specOB N)
  | 0 => specB4_ok.add (sp1_ok fun e h => by omega)
  | N + 1 => specB4_ok.add (sp1_ok fun e h k H => ofBound_step N (specOB_ok N) e h.1 h.2)
theorem ofBound_call (e : E) (hok : e.ok) : CallAt Tryz.prog w0 k 127 [e.av] H H (.int .u64 ((e.bv : Nat) : Int)) := ofBound_step e.sz (specOB_ok _) e hok (Nat.lt_succ_self _)
end Go.Proofs.YtkdendaohlnlcaaGreat.Av

/- What more functions of the reference of layer 2 answer. No condition. -/
namespace Go.Proofs.YtkdendaohlnlcaaGreat.Av
set_option linter.unusedVariables false
set_option linter.unusedSimpArgs false
set_option maxRecDepth 4000
set_option maxHeartbeats 1000000
variable {w0 : Base} {k : List Nat} {H : Hp}
theorem wantF_call (e : E) (hok : e.ok) : CallAt Tryz.prog w0 k 29 [e.av] H H (.int .i64 e.wantF) := by
  have hS : SpecOk Tryz.prog w0 (spec02b.add 47 (sp1 dE (fun e => e.ok) fun e => .int .i64 e.right)) := spec02b_ok.add (sp1_ok fun e h k H => right02_call e h)
  refine callAt tabOk hS mixed Tryz.func29 rfl rfl Tryz.results29 Tryz.ntmps29 (by simp) [] ?_
  intro hfr t hl ht
  simp only [At, Nat.reduceAdd, List.cons_append, List.nil_append] at ht
  simp (config := {contextual := true, maxSteps := 5000000}) only [go_sem, false_and, Nat.reduceAdd, Nat.reduceLT, Nat.reduceBEq, Nat.reduceSub, Nat.reduceMul, Nat.reduceLeDiff, Int.reduceToNat, Nat.reduceEqDiff, Nat.reduceMod, ht, hl, spec02b]
  unfold E.wantF
  (repeat' (first | apply And.intro | intro _)) <;> simp_all
def specW : Spec := spec02b.add 29 (sp1 dE (fun e => e.ok) fun e => .int .i64 e.wantF)
theorem specW_ok : SpecOk Tryz.prog w0 specW := spec02b_ok.add (sp1_ok fun e h k H => wantF_call e h)
end Go.Proofs.YtkdendaohlnlcaaGreat.Av

/- What the reference's Copy, First and WantTerm answer. No condition. -/
namespace Go.Proofs.YtkdendaohlnlcaaGreat.Av
set_option linter.unusedVariables false
set_option linter.unusedSimpArgs false
set_option maxRecDepth 4000
set_option maxHeartbeats 1000000
variable {w0 : Base} {k : List Nat} {H : Hp}
def specCo (N : Nat) : Spec := Spec.no.add 19 (sp1 dE (fun e => e.sh = true ∧ e.sz < N) fun e => e.av)
theorem copy_step (N : Nat) (hS : SpecOk Tryz.prog w0 (specCo N)) (e : E) (hs : e.sh = true) (hN : e.sz < N + 1) : CallAt Tryz.prog w0 k 19 [e.av] H H e.av := by
  refine callAt tabOk hS mixed Tryz.func19 rfl rfl Tryz.results19 Tryz.ntmps19 (by simp) [] ?_
  intro hfr t hl ht
  simp only [At, Nat.reduceAdd, List.cons_append, List.nil_append] at ht
  have fN : ∀ (a b : Nat) z ty, H ⟨z, a :: b :: k, ty⟩ = none := fun a b z ty => hfr _ (sfx2 _ _ _)
  have h4 := E.loc_len (E.sh_loc hs)
  simp (config := {contextual := true, maxSteps := 5000000}) only [go_sem, false_and, Nat.reduceAdd, Nat.reduceLT, Nat.reduceBEq, Nat.reduceSub, Nat.reduceMul, Nat.reduceLeDiff, Int.reduceToNat, Nat.reduceEqDiff, Nat.reduceMod, ht, hl]
  refine loop_inv tabOk hS mixed [] (fun j x => ∃ (i : Nat) (tk : Tok), x.tmps.length = 29 ∧ x.tmps.getD 1 AV.undef = .sptr [.int .i64 e.kind, .int .i64 e.id, .list .none (e.kids.map E.cells)] ∧ x.tmps.getD 2 AV.undef = .ptr ⟨3, 1 :: 0 :: k, 33⟩ 0 ∧ x.tmps.getD 3 AV.undef = .ptr ⟨3, 5 :: 1 :: k, 33⟩ 0 ∧ x.tmps.getD 13 AV.undef = .list .none (e.kids.map E.cells) ∧ x.tmps.getD 14 AV.undef = .int .i64 e.kids.length ∧ x.tmps.getD 15 AV.undef = .int .i64 i ∧
    x.H ⟨3, 5 :: 1 :: k, 33⟩ = some (.cells [.int .i64 e.kind, .int .i64 e.id, .list tk ((e.kids.take i).map E.cells)]) ∧ LstK (H.upd ⟨3, 1 :: 0 :: k, 33⟩ (some (.cells [.int .i64 0, .int .i64 0, .list .nil []]))) 3 33 4 k tk x.H ∧ i + j = e.kids.length) e.kids.length ⟨0, .nil, ?_⟩ ?_
  · simp (config := {contextual := true, maxSteps := 5000000}) only [go_sem, false_and, Nat.reduceAdd, Nat.reduceLT, Nat.reduceBEq, Nat.reduceSub, Nat.reduceMul, Nat.reduceLeDiff, Int.reduceToNat, Nat.reduceEqDiff, Nat.reduceMod, ht, hl]
    exact ⟨rfl, ⟨Hp.le_upd (Hp.Le.refl _) (by rw [Hp.upd_ne _ _ (fun h => by cases h)]; exact fN _ _ _ _), .inl rfl⟩, by omega⟩
  · rintro j ⟨t, n, H2⟩ ⟨i, tk, hl, h1, h2, h3, h10, h11, h12, hX, hL, hij⟩
    simp only at hl h1 h2 h3 h10 h11 h12 hX hL
    have fN1 : ∀ (a b : Nat) z ty, a ≠ 1 → (H.upd ⟨3, 1 :: 0 :: k, 33⟩ (some (.cells [.int .i64 0, .int .i64 0, .list .nil []]))) ⟨z, a :: b :: k, ty⟩ = none := fun a b z ty ha => by
      rw [Hp.upd_ne _ _ (fun h => by cases h; exact ha rfl)]
      exact fN _ _ _ _
    have hle : H.Le H2 := fun i y hi => hL.1 i y (by rw [Hp.upd_ne _ _ (fun h => by rw [h, fN] at hi; cases hi)]; exact hi)
    by_cases hi : i < e.kids.length
    · have hd : decide ((i : Int) < (e.kids.length : Int)) = true := by simp [hi]
      have hw : IntKind.i64.wrap ((i : Int) + 1) = ((i + 1 : Nat) : Int) := by rw [wrap_i64] <;> omega
      obtain ⟨x, hx, he⟩ := E.kid e hi
      have hy : [[AV.int .i64 x.kind, .int .i64 x.id, .list .none (x.kids.map E.cells)]] = [x.cells] := by rw [E.cells_eq x]
      have hlt : (e.kids.take i).length = i := by rw [List.length_take]; omega
      have hF : ∀ c d, LstK (H.upd ⟨3, 1 :: 0 :: k, 33⟩ (some (.cells [.int .i64 0, .int .i64 0, .list .nil []]))) 3 33 4 k tk ((H2.upd ⟨3, 2 :: (n + 1) :: k, 33⟩ c).upd ⟨3, 2 :: (n + 1 + 1) :: k, 33⟩ d) := fun c d => (hL.frame (fN1 _ _ _ _ (by decide)) (fun m he => by cases he)).frame (fN1 _ _ _ _ (by decide)) (fun m he => by cases he)
      have hP := fun c d f => ((hF c d).push (fun m => fN1 _ _ _ _ (by decide)) (y := x.cells) (ys := []) (n + 1 + 1 + 1)).frame (X := ⟨3, 5 :: 1 :: k, 33⟩) (e := f) (fN1 _ _ _ _ (by decide)) (fun m he => by cases he)
      simp only [tokBy_cons] at hP
      have hkk : ∀ c d, killTok ((H2.upd ⟨3, 2 :: (n + 1) :: k, 33⟩ c).upd ⟨3, 2 :: (n + 1 + 1) :: k, 33⟩ d) tk ⟨3, 5 :: 1 :: k, 33⟩ = some (.cells [.int .i64 e.kind, .int .i64 e.id, .list tk ((e.kids.take i).map E.cells)]) := fun c d =>
        killTok_keeps (by rw [Hp.upd_ne _ _ (fun he => by cases he), Hp.upd_ne _ _ (fun he => by cases he)]; exact hX) ((hF c d).2.imp id fun ⟨m, h1, h2⟩ => ⟨_, h1, h2⟩)
      simp (config := {contextual := true, maxSteps := 5000000}) only [go_sem, false_and, Nat.reduceAdd, Nat.reduceLT, Nat.reduceBEq, Nat.reduceSub, Nat.reduceMul, Nat.reduceLeDiff, Int.reduceToNat, Nat.reduceEqDiff, Nat.reduceMod, he, toE_at, specCo, h1, h2, h3, h10, h11, h12, hX, hl, hd, hw, strip, tokBy_cons, hkk]
      refine ⟨by omega, ⟨E.sh_kid hs hx, by have := E.kid_sz hx; omega⟩, fun y h => (h.elim (fun h => by rw [h]; rfl) (fun h => h.elim)), fun y h => by (obtain ⟨z, _, rfl⟩ := List.mem_map.1 h; exact E.cells_length _), rfl, by omega, by omega, (hF _ _).live, j - 1, by omega, i + 1, .tok ⟨3, 4 :: (n + 1 + 1 + 1) :: k, 33⟩, rfl, ?_, hP _ _ _, by omega⟩
      rw [hy, take_map _ hx]
    · have hd : decide ((i : Int) < (e.kids.length : Int)) = false := by simp; omega
      have e6 : e.kids.take i = e.kids := List.take_of_length_le (by omega)
      rw [e6] at hX
      have hR : H2 ⟨3, 1 :: 0 :: k, 33⟩ = some (.cells [.int .i64 0, .int .i64 0, .list .nil []]) := hL.1 _ _ (Hp.upd_same _ _ _)
      simp (config := {contextual := true, maxSteps := 5000000}) only [go_sem, false_and, Nat.reduceAdd, Nat.reduceLT, Nat.reduceBEq, Nat.reduceSub, Nat.reduceMul, Nat.reduceLeDiff, Int.reduceToNat, Nat.reduceEqDiff, Nat.reduceMod, specCo, h1, h2, h3, h10, h11, h12, hX, hl, hd, hR, resOne]
      exact ⟨WeakL.agg ⟨_, _, rfl, Weak.refl _, _, _, rfl, Weak.refl _, _, _, rfl, list_weak, rfl⟩, by (repeat (first | exact hle | refine Hp.le_upd ?_ (fN _ _ _ _)))⟩
theorem specCo_ok : ∀ N, SpecOk Tryz.prog w0 (specCo N)
  | 0 => Spec.no_ok.add (sp1_ok fun e h => by omega)
  | N + 1 => Spec.no_ok.add (sp1_ok fun e h k H => copy_step N (specCo_ok N) e h.1 h.2)
theorem copy_call (e : E) (hs : e.sh = true) : CallAt Tryz.prog w0 k 19 [e.av] H H e.av := copy_step e.sz (specCo_ok _) e hs (Nat.lt_succ_self _)
def spec2r : Spec := spec02b.add 47 (sp1 dE (fun e => e.ok) fun e => .int .i64 e.right)
theorem spec2r_ok : SpecOk Tryz.prog w0 spec2r := spec02b_ok.add (sp1_ok fun e h k H => right02_call e h)
def firstE (a b : E) : Int := if a.right = 0 then b.right else a.right
def E.wantT (e : E) : Int := if e.right = 0 then (if e.term then 0 else 40) else e.right
theorem first_call (a b : E) (ha : a.ok) (hb : b.ok) : CallAt Tryz.prog w0 k 148 [a.av, b.av] H H (.int .i64 (firstE a b)) := by
  refine callAt tabOk spec2r_ok mixed Tryz.func148 rfl rfl Tryz.results148 Tryz.ntmps148 (by simp) [] ?_
  intro hfr t hl ht
  simp only [At, Nat.reduceAdd, List.cons_append, List.nil_append] at ht
  simp (config := {contextual := true, maxSteps := 5000000}) only [go_sem, false_and, Nat.reduceAdd, Nat.reduceLT, Nat.reduceBEq, Nat.reduceSub, Nat.reduceMul, Nat.reduceLeDiff, Int.reduceToNat, Nat.reduceEqDiff, Nat.reduceMod, ht, hl, spec2r, spec02b]
  unfold firstE
  (repeat' (first | apply And.intro | intro _)) <;> simp_all
theorem wantT_call (e : E) (hok : e.ok) : CallAt Tryz.prog w0 k 149 [e.av] H H (.int .i64 e.wantT) := by
  refine callAt tabOk spec2r_ok mixed Tryz.func149 rfl rfl Tryz.results149 Tryz.ntmps149 (by simp) [] ?_
  intro hfr t hl ht
  simp only [At, Nat.reduceAdd, List.cons_append, List.nil_append] at ht
  simp (config := {contextual := true, maxSteps := 5000000}) only [go_sem, false_and, Nat.reduceAdd, Nat.reduceLT, Nat.reduceBEq, Nat.reduceSub, Nat.reduceMul, Nat.reduceLeDiff, Int.reduceToNat, Nat.reduceEqDiff, Nat.reduceMod, ht, hl, spec2r, spec02b]
  unfold E.wantT
  (repeat' (first | apply And.intro | intro _)) <;> simp_all
end Go.Proofs.YtkdendaohlnlcaaGreat.Av

/- What the functions of the reference of layer 4 answer: the rest. No condition. -/
namespace Go.Proofs.YtkdendaohlnlcaaGreat.Av
set_option linter.unusedVariables false
set_option linter.unusedSimpArgs false
set_option maxRecDepth 4000
set_option maxHeartbeats 1000000
variable {w0 : Base} {k : List Nat} {H : Hp}
def specB6 : Spec := (((Spec.no.add 126 (sp1 dE (fun e => e.ok) fun e => .int .u64 ((e.ov : Nat) : Int))).add 127 (sp1 dE (fun e => e.ok) fun e => .int .u64 ((e.bv : Nat) : Int))).add 109 (sp2 dW dW (fun a b => a < 18446744073709551616 ∧ b < 18446744073709551616) fun a b => .int .u64 ((a ||| b : Nat) : Int)))
theorem specB6_ok : SpecOk Tryz.prog w0 specB6 := ((Spec.no_ok.add (sp1_ok fun e h k H => occur_call e h)).add (sp1_ok fun e h k H => ofBound_call e h)).add (sp2_ok fun a b h k H => union_call a b h.1 h.2)
theorem ofVars_call (e : E) (hok : e.ok) : CallAt Tryz.prog w0 k 110 [e.av] H H (.int .u64 ((e.vs : Nat) : Int)) := by
  refine callAt tabOk specB6_ok mixed Tryz.func110 rfl rfl Tryz.results110 Tryz.ntmps110 (by simp) [] ?_
  intro hfr t hl ht
  simp only [At, Nat.reduceAdd, List.cons_append, List.nil_append] at ht
  simp (config := {contextual := true, maxSteps := 5000000}) only [go_sem, false_and, Nat.reduceAdd, Nat.reduceLT, Nat.reduceBEq, Nat.reduceSub, Nat.reduceMul, Nat.reduceLeDiff, Int.reduceToNat, Nat.reduceEqDiff, Nat.reduceMod, ht, hl, specB6]
  exact ⟨by kernel_rfl, hok, hok, ⟨e.ov_lt, e.bv_lt⟩, List.Pairwise.nil, rfl⟩
def specIf : Spec := (Spec.no.add 123 (sp1 dE (fun e => e.ok) fun e => .int .u64 ((e.fv : Nat) : Int))).add 122 (sp2 dW dI (fun s _ => s < 18446744073709551616) fun s n => .bool (hasB s n))
theorem specIf_ok : SpecOk Tryz.prog w0 specIf := (Spec.no_ok.add (sp1_ok fun e h k H => ofFree_call e h)).add (sp2_ok fun s n h k H => has01_call s n h)
theorem isFree_call (x : Int) (e : E) (hok : e.ok) : CallAt Tryz.prog w0 k 107 [.int .i64 x, e.av] H H (.bool (hasB e.fv x)) := by
  refine callAt tabOk specIf_ok mixed Tryz.func107 rfl rfl Tryz.results107 Tryz.ntmps107 (by simp) [] ?_
  intro hfr t hl ht
  simp only [At, Nat.reduceAdd, List.cons_append, List.nil_append] at ht
  simp (config := {contextual := true, maxSteps := 5000000}) only [go_sem, false_and, Nat.reduceAdd, Nat.reduceLT, Nat.reduceBEq, Nat.reduceSub, Nat.reduceMul, Nat.reduceLeDiff, Int.reduceToNat, Nat.reduceEqDiff, Nat.reduceMod, ht, hl, specIf]
  exact ⟨hok, e.fv_lt⟩
def specB5 : Spec := specB4.add 107 (sp2 dI dE (fun _ e => e.ok) fun x e => .bool (hasB e.fv x))
theorem specB5_ok : SpecOk Tryz.prog w0 specB5 := specB4_ok.add (sp2_ok fun x e h k H => isFree_call x e h)
theorem cau_sh {e : E} (hs : e.sh = true) (own : Nat) (x : Int) : e.cau own x = if hasB e.fv x = true then (if isQ e.kind = true ∧ hasB own e.id = true then bitv e.id else 0) ||| E.cauL own x e.kids else 0 := by
  rw [E.cau_eq]
  by_cases h1 : e.kind = 1
  · have hk : e.kids = [] := by
      cases e with
      | mk k i ks =>
        have h1' : k = 1 := h1
        subst h1'
        exact (by
          have h2 := E.sh_loc hs
          unfold E.loc at h2
          simp only [E.want, E.kind, E.kids, E.id, if_true, Bool.and_eq_true] at h2
          exact List.length_eq_zero_iff.1 (Nat.le_zero.1 (of_decide_eq_true h2.1.2)))
    rw [if_pos h1, hk, h1]
    simp [E.cauL, isQ_one]
  · rw [if_neg h1]
def specCa (N : Nat) : Spec := specB5.add 139 (sp3 dW dI dE (fun own _ e => (own < 18446744073709551616 ∧ e.ok ∧ e.sh = true) ∧ e.sz < N) fun own x e => .int .u64 ((e.cau own x : Nat) : Int))
theorem caught_step (N : Nat) (hS : SpecOk Tryz.prog w0 (specCa N)) (own : Nat) (x : Int) (e : E) (ho : own < 18446744073709551616) (hok : e.ok) (hs : e.sh = true) (hN : e.sz < N + 1) : CallAt Tryz.prog w0 k 139 [.int .u64 (own : Int), .int .i64 x, e.av] H H (.int .u64 ((e.cau own x : Nat) : Int)) := by
  refine callAt tabOk hS mixed Tryz.func139 rfl rfl Tryz.results139 Tryz.ntmps139 (by simp) [] ?_
  intro hfr t hl ht
  simp only [At, Nat.reduceAdd, List.cons_append, List.nil_append] at ht
  have fN : ∀ (a b : Nat) z ty, H ⟨z, a :: b :: k, ty⟩ = none := fun a b z ty => hfr _ (sfx2 _ _ _)
  have hlen := E.ok_len hok
  rw [cau_sh hs]
  cases hf : hasB e.fv x
  · rw [if_neg (by simp)]
    simp (config := {contextual := true, maxSteps := 5000000}) only [go_sem, false_and, Nat.reduceAdd, Nat.reduceLT, Nat.reduceBEq, Nat.reduceSub, Nat.reduceMul, Nat.reduceLeDiff, Int.reduceToNat, Nat.reduceEqDiff, Nat.reduceMod, ht, hl, specCa, specB5, specB4, specW4, specW3, specW2, hf]
    exact ⟨hok, rfl⟩
  · rw [if_pos rfl]
    by_cases hq : isQ e.kind = true ∧ hasB own e.id = true
    · rw [if_pos hq]
      simp (config := {contextual := true, maxSteps := 5000000}) only [go_sem, false_and, Nat.reduceAdd, Nat.reduceLT, Nat.reduceBEq, Nat.reduceSub, Nat.reduceMul, Nat.reduceLeDiff, Int.reduceToNat, Nat.reduceEqDiff, Nat.reduceMod, ht, hl, specCa, specB5, specB4, specW4, specW3, specW2, hf, hq.1, hq.2]
      refine ⟨hok, ho, ?_⟩
      refine loop_inv tabOk hS mixed [] (fun j x' => ∃ i : Nat, x'.tmps.length = 41 ∧ x'.tmps.getD 0 AV.undef = .int .u64 (own : Int) ∧ x'.tmps.getD 1 AV.undef = .int .i64 x ∧ x'.tmps.length = 41 ∧ x'.tmps.getD 5 AV.undef = .sptr [.int .i64 e.kind, .int .i64 e.id, .list .none (e.kids.map E.cells)] ∧ x'.tmps.getD 7 AV.undef = .int .u64 ((bitv e.id ||| E.cauL own x (e.kids.take i) : Nat) : Int) ∧ x'.tmps.getD 27 AV.undef = .list .none (e.kids.map E.cells) ∧ x'.tmps.getD 28 AV.undef = .int .i64 e.kids.length ∧ x'.tmps.getD 29 AV.undef = .int .i64 i ∧ H.Le x'.H ∧ i + j = e.kids.length) e.kids.length ⟨0, ?_⟩ ?_
      · simp (config := {contextual := true, maxSteps := 5000000}) only [go_sem, false_and, Nat.reduceAdd, Nat.reduceLT, Nat.reduceBEq, Nat.reduceSub, Nat.reduceMul, Nat.reduceLeDiff, Int.reduceToNat, Nat.reduceEqDiff, Nat.reduceMod, ht, hl]
        simp [E.cauL, Hp.Le.refl]
      · rintro j ⟨t, m, H'⟩ ⟨i, hl, gA, gB, _, gb, ga, g1, g2, g3, hH, hij⟩
        simp only at hl gA gB gb ga g1 g2 g3 hH
        by_cases hi : i < e.kids.length
        · have hd : decide ((i : Int) < (e.kids.length : Int)) = true := by simp [hi]
          have hw2 : IntKind.i64.wrap ((i : Int) + 1) = ((i + 1 : Nat) : Int) := by rw [wrap_i64] <;> omega
          obtain ⟨y, hx, hex⟩ := E.kid e hi
          have htk := E.cauL_take own x e.kids i y hx
          have l1 : (bitv e.id ||| E.cauL own x (e.kids.take i) : Nat) < 18446744073709551616 := or_lt (bitv_lt _) (E.cauL_lt own x _)
          have l2 := y.cau_lt own x
          have hxs : y.sz < N := by have := E.kid_sz hx; omega
          simp (config := {contextual := true, maxSteps := 5000000}) only [go_sem, false_and, Nat.reduceAdd, Nat.reduceLT, Nat.reduceBEq, Nat.reduceSub, Nat.reduceMul, Nat.reduceLeDiff, Int.reduceToNat, Nat.reduceEqDiff, Nat.reduceMod, hex, specCa, specB5, specB4, specW4, specW3, specW2, gb, ga, gA, gB, g1, g2, g3, hl, hd, hw2]
          refine ⟨⟨by omega, by omega⟩, ⟨⟨ho, E.ok_kid hok hx, E.sh_kid hs hx⟩, hxs⟩, ⟨l1, l2⟩, j - 1, by omega, i + 1, ?_, rfl, Hp.le_upd hH (fN _ _ _ _), by omega⟩
          rw [htk, Nat.or_assoc]
        · have hd : decide ((i : Int) < (e.kids.length : Int)) = false := by simp; omega
          have hall : E.cauL own x (e.kids.take i) = E.cauL own x e.kids := by rw [List.take_of_length_le (by omega)]
          rw [hall] at ga
          simp (config := {contextual := true, maxSteps := 5000000}) only [go_sem, false_and, Nat.reduceAdd, Nat.reduceLT, Nat.reduceBEq, Nat.reduceSub, Nat.reduceMul, Nat.reduceLeDiff, Int.reduceToNat, Nat.reduceEqDiff, Nat.reduceMod, specCa, specB5, specB4, specW4, specW3, specW2, gb, ga, gA, gB, g1, g2, g3, hl, hd]
          exact hH
    · rw [if_neg hq]
      cases hq1 : isQ e.kind
      · simp (config := {contextual := true, maxSteps := 5000000}) only [go_sem, false_and, Nat.reduceAdd, Nat.reduceLT, Nat.reduceBEq, Nat.reduceSub, Nat.reduceMul, Nat.reduceLeDiff, Int.reduceToNat, Nat.reduceEqDiff, Nat.reduceMod, ht, hl, specCa, specB5, specB4, specW4, specW3, specW2, hf, hq1]
        refine ⟨hok, ?_⟩
        refine loop_inv tabOk hS mixed [] (fun j x' => ∃ i : Nat, x'.tmps.length = 41 ∧ x'.tmps.getD 0 AV.undef = .int .u64 (own : Int) ∧ x'.tmps.getD 1 AV.undef = .int .i64 x ∧ x'.tmps.length = 41 ∧ x'.tmps.getD 5 AV.undef = .sptr [.int .i64 e.kind, .int .i64 e.id, .list .none (e.kids.map E.cells)] ∧ x'.tmps.getD 7 AV.undef = .int .u64 (( E.cauL own x (e.kids.take i) : Nat) : Int) ∧ x'.tmps.getD 27 AV.undef = .list .none (e.kids.map E.cells) ∧ x'.tmps.getD 28 AV.undef = .int .i64 e.kids.length ∧ x'.tmps.getD 29 AV.undef = .int .i64 i ∧ H.Le x'.H ∧ i + j = e.kids.length) e.kids.length ⟨0, ?_⟩ ?_
        · simp (config := {contextual := true, maxSteps := 5000000}) only [go_sem, false_and, Nat.reduceAdd, Nat.reduceLT, Nat.reduceBEq, Nat.reduceSub, Nat.reduceMul, Nat.reduceLeDiff, Int.reduceToNat, Nat.reduceEqDiff, Nat.reduceMod, ht, hl]
          simp [E.cauL, Hp.Le.refl]
        · rintro j ⟨t, m, H'⟩ ⟨i, hl, gA, gB, _, gb, ga, g1, g2, g3, hH, hij⟩
          simp only at hl gA gB gb ga g1 g2 g3 hH
          by_cases hi : i < e.kids.length
          · have hd : decide ((i : Int) < (e.kids.length : Int)) = true := by simp [hi]
            have hw2 : IntKind.i64.wrap ((i : Int) + 1) = ((i + 1 : Nat) : Int) := by rw [wrap_i64] <;> omega
            obtain ⟨y, hx, hex⟩ := E.kid e hi
            have htk := E.cauL_take own x e.kids i y hx
            have l1 : ( E.cauL own x (e.kids.take i) : Nat) < 18446744073709551616 := E.cauL_lt own x _
            have l2 := y.cau_lt own x
            have hxs : y.sz < N := by have := E.kid_sz hx; omega
            simp (config := {contextual := true, maxSteps := 5000000}) only [go_sem, false_and, Nat.reduceAdd, Nat.reduceLT, Nat.reduceBEq, Nat.reduceSub, Nat.reduceMul, Nat.reduceLeDiff, Int.reduceToNat, Nat.reduceEqDiff, Nat.reduceMod, hex, specCa, specB5, specB4, specW4, specW3, specW2, gb, ga, gA, gB, g1, g2, g3, hl, hd, hw2]
            refine ⟨⟨by omega, by omega⟩, ⟨⟨ho, E.ok_kid hok hx, E.sh_kid hs hx⟩, hxs⟩, ⟨l1, l2⟩, j - 1, by omega, i + 1, ?_, rfl, Hp.le_upd hH (fN _ _ _ _), by omega⟩
            rw [htk]
          · have hd : decide ((i : Int) < (e.kids.length : Int)) = false := by simp; omega
            have hall : E.cauL own x (e.kids.take i) = E.cauL own x e.kids := by rw [List.take_of_length_le (by omega)]
            rw [hall] at ga
            simp (config := {contextual := true, maxSteps := 5000000}) only [go_sem, false_and, Nat.reduceAdd, Nat.reduceLT, Nat.reduceBEq, Nat.reduceSub, Nat.reduceMul, Nat.reduceLeDiff, Int.reduceToNat, Nat.reduceEqDiff, Nat.reduceMod, specCa, specB5, specB4, specW4, specW3, specW2, gb, ga, gA, gB, g1, g2, g3, hl, hd]
            simpa using hH
      · have hq2 : hasB own e.id = false := by
          cases hh : hasB own e.id
          · rfl
          · exact absurd ⟨hq1, hh⟩ hq
        simp (config := {contextual := true, maxSteps := 5000000}) only [go_sem, false_and, Nat.reduceAdd, Nat.reduceLT, Nat.reduceBEq, Nat.reduceSub, Nat.reduceMul, Nat.reduceLeDiff, Int.reduceToNat, Nat.reduceEqDiff, Nat.reduceMod, ht, hl, specCa, specB5, specB4, specW4, specW3, specW2, hf, hq1, hq2]
        refine ⟨hok, ho, ?_⟩
        refine loop_inv tabOk hS mixed [] (fun j x' => ∃ i : Nat, x'.tmps.length = 41 ∧ x'.tmps.getD 0 AV.undef = .int .u64 (own : Int) ∧ x'.tmps.getD 1 AV.undef = .int .i64 x ∧ x'.tmps.length = 41 ∧ x'.tmps.getD 5 AV.undef = .sptr [.int .i64 e.kind, .int .i64 e.id, .list .none (e.kids.map E.cells)] ∧ x'.tmps.getD 7 AV.undef = .int .u64 (( E.cauL own x (e.kids.take i) : Nat) : Int) ∧ x'.tmps.getD 27 AV.undef = .list .none (e.kids.map E.cells) ∧ x'.tmps.getD 28 AV.undef = .int .i64 e.kids.length ∧ x'.tmps.getD 29 AV.undef = .int .i64 i ∧ H.Le x'.H ∧ i + j = e.kids.length) e.kids.length ⟨0, ?_⟩ ?_
        · simp (config := {contextual := true, maxSteps := 5000000}) only [go_sem, false_and, Nat.reduceAdd, Nat.reduceLT, Nat.reduceBEq, Nat.reduceSub, Nat.reduceMul, Nat.reduceLeDiff, Int.reduceToNat, Nat.reduceEqDiff, Nat.reduceMod, ht, hl]
          simp [E.cauL, Hp.Le.refl]
        · rintro j ⟨t, m, H'⟩ ⟨i, hl, gA, gB, _, gb, ga, g1, g2, g3, hH, hij⟩
          simp only at hl gA gB gb ga g1 g2 g3 hH
          by_cases hi : i < e.kids.length
          · have hd : decide ((i : Int) < (e.kids.length : Int)) = true := by simp [hi]
            have hw2 : IntKind.i64.wrap ((i : Int) + 1) = ((i + 1 : Nat) : Int) := by rw [wrap_i64] <;> omega
            obtain ⟨y, hx, hex⟩ := E.kid e hi
            have htk := E.cauL_take own x e.kids i y hx
            have l1 : ( E.cauL own x (e.kids.take i) : Nat) < 18446744073709551616 := E.cauL_lt own x _
            have l2 := y.cau_lt own x
            have hxs : y.sz < N := by have := E.kid_sz hx; omega
            simp (config := {contextual := true, maxSteps := 5000000}) only [go_sem, false_and, Nat.reduceAdd, Nat.reduceLT, Nat.reduceBEq, Nat.reduceSub, Nat.reduceMul, Nat.reduceLeDiff, Int.reduceToNat, Nat.reduceEqDiff, Nat.reduceMod, hex, specCa, specB5, specB4, specW4, specW3, specW2, gb, ga, gA, gB, g1, g2, g3, hl, hd, hw2]
            refine ⟨⟨by omega, by omega⟩, ⟨⟨ho, E.ok_kid hok hx, E.sh_kid hs hx⟩, hxs⟩, ⟨l1, l2⟩, j - 1, by omega, i + 1, ?_, rfl, Hp.le_upd hH (fN _ _ _ _), by omega⟩
            rw [htk]
          · have hd : decide ((i : Int) < (e.kids.length : Int)) = false := by simp; omega
            have hall : E.cauL own x (e.kids.take i) = E.cauL own x e.kids := by rw [List.take_of_length_le (by omega)]
            rw [hall] at ga
            simp (config := {contextual := true, maxSteps := 5000000}) only [go_sem, false_and, Nat.reduceAdd, Nat.reduceLT, Nat.reduceBEq, Nat.reduceSub, Nat.reduceMul, Nat.reduceLeDiff, Int.reduceToNat, Nat.reduceEqDiff, Nat.reduceMod, specCa, specB5, specB4, specW4, specW3, specW2, gb, ga, gA, gB, g1, g2, g3, hl, hd]
            simpa using hH
theorem specCa_ok : ∀ N, SpecOk Tryz.prog w0 (specCa N)
  | 0 => specB5_ok.add (sp3_ok fun own x e h => by omega)
  | N + 1 => specB5_ok.add (sp3_ok fun own x e h k H => caught_step N (specCa_ok N) own x e h.1.1 h.1.2.1 h.1.2.2 h.2)
theorem caughtR_call (own : Nat) (x : Int) (e : E) (ho : own < 18446744073709551616) (hok : e.ok) (hs : e.sh = true) : CallAt Tryz.prog w0 k 139 [.int .u64 (own : Int), .int .i64 x, e.av] H H (.int .u64 ((e.cau own x : Nat) : Int)) := caught_step e.sz (specCa_ok _) own x e ho hok hs (Nat.lt_succ_self _)
def specAs : Spec := (Spec.no.add 148 (sp2 dE dE (fun a b => a.ok ∧ b.ok) fun a b => .int .i64 (firstE a b))).add 149 (sp1 dE (fun e => e.ok) fun e => .int .i64 e.wantT)
theorem specAs_ok : SpecOk Tryz.prog w0 specAs := (Spec.no_ok.add (sp2_ok fun a b h k H => first_call a b h.1 h.2)).add (sp1_ok fun e h k H => wantT_call e h)
def asked4 (t : E) (x : Int) (a : E) : Int := if 0 ≤ x ∧ x ≤ 63 then (if firstE t a = 0 then t.wantT else firstE t a) else 1
theorem asked4_call (u : E) (x : Int) (a : E) (hu : u.ok) (ha : a.ok) : CallAt Tryz.prog w0 k 138 [u.av, .int .i64 x, a.av] H H (.int .i64 (asked4 u x a)) := by
  refine callAt tabOk specAs_ok mixed Tryz.func138 rfl rfl Tryz.results138 Tryz.ntmps138 (by simp) [] ?_
  intro hfr t hl ht
  simp only [At, Nat.reduceAdd, List.cons_append, List.nil_append] at ht
  unfold asked4
  by_cases h0 : x < 0
  · have d0 : decide (x < 0) = true := by simpa using h0
    rw [if_neg (by omega)]
    simp (config := {contextual := true, maxSteps := 5000000}) only [go_sem, false_and, Nat.reduceAdd, Nat.reduceLT, Nat.reduceBEq, Nat.reduceSub, Nat.reduceMul, Nat.reduceLeDiff, Int.reduceToNat, Nat.reduceEqDiff, Nat.reduceMod, ht, hl, specAs, toE_at, d0]
  have d0 : decide (x < 0) = false := by simpa using h0
  by_cases h1 : 63 < x
  · have d1 : decide (63 < x) = true := by simpa using h1
    rw [if_neg (by omega)]
    simp (config := {contextual := true, maxSteps := 5000000}) only [go_sem, false_and, Nat.reduceAdd, Nat.reduceLT, Nat.reduceBEq, Nat.reduceSub, Nat.reduceMul, Nat.reduceLeDiff, Int.reduceToNat, Nat.reduceEqDiff, Nat.reduceMod, ht, hl, specAs, toE_at, d0, d1]
  have d1 : decide (63 < x) = false := by simpa using h1
  rw [if_pos (by omega)]
  by_cases hf : firstE u a = 0
  · have hb : (firstE u a != 0) = false := by simp [hf]
    rw [if_pos hf]
    simp (config := {contextual := true, maxSteps := 5000000}) only [go_sem, false_and, Nat.reduceAdd, Nat.reduceLT, Nat.reduceBEq, Nat.reduceSub, Nat.reduceMul, Nat.reduceLeDiff, Int.reduceToNat, Nat.reduceEqDiff, Nat.reduceMod, ht, hl, specAs, toE_at, d0, d1, hb]
    exact ⟨⟨hu, ha⟩, hu⟩
  · have hb : (firstE u a != 0) = true := by simpa using hf
    rw [if_neg hf]
    simp (config := {contextual := true, maxSteps := 5000000}) only [go_sem, false_and, Nat.reduceAdd, Nat.reduceLT, Nat.reduceBEq, Nat.reduceSub, Nat.reduceMul, Nat.reduceLeDiff, Int.reduceToNat, Nat.reduceEqDiff, Nat.reduceMod, ht, hl, specAs, toE_at, d0, d1, hb]
    exact ⟨hu, ha⟩
theorem asked4_caught (t : E) (x : Int) (a : E) : (caughtE t x a).2 = asked4 t x a := by
  unfold caughtE asked4 firstE E.wantT
  (repeat' split) <;> simp_all
def specCu : Spec := ((Spec.no.add 138 (sp3 dE dI dE (fun u _ a => u.ok ∧ a.ok) fun u x a => .int .i64 (asked4 u x a))).add 110 (sp1 dE (fun e => e.ok) fun e => .int .u64 ((e.vs : Nat) : Int))).add 139 (sp3 dW dI dE (fun own _ e => own < 18446744073709551616 ∧ e.ok ∧ e.sh = true) fun own x e => .int .u64 ((e.cau own x : Nat) : Int))
theorem specCu_ok : SpecOk Tryz.prog w0 specCu := ((Spec.no_ok.add (sp3_ok fun u x a h k H => asked4_call u x a h.1 h.2)).add (sp1_ok fun e h k H => ofVars_call e h)).add (sp3_ok fun own x e h k H => caughtR_call own x e h.1 h.2.1 h.2.2)
theorem asked4_zero {u : E} {x : Int} {a : E} (h : asked4 u x a = 0) : (0 ≤ x ∧ x ≤ 63) ∧ u.right = 0 ∧ a.right = 0 ∧ u.term = true := by
  unfold asked4 firstE E.wantT at h
  (repeat' split at h) <;> simp_all
theorem right_sh4 {e : E} (h : e.right = 0) : e.sh = true := by
  unfold E.right at h
  (repeat' split at h) <;> first | assumption | omega
theorem caught04_call (u : E) (x : Int) (a : E) (hu : u.ok) (ha : a.ok) : CallAt Tryz.prog w0 k 124 [u.av, .int .i64 x, a.av] H H (.tup [.int .u64 ((caughtE u x a).1 : Int), .int .i64 (caughtE u x a).2]) := by
  refine callAt tabOk specCu_ok mixed Tryz.func124 rfl rfl Tryz.results124 Tryz.ntmps124 (by simp) [] ?_
  intro hfr t hl ht
  simp only [At, Nat.reduceAdd, List.cons_append, List.nil_append] at ht
  rw [asked4_caught]
  by_cases h0 : asked4 u x a = 0
  · have hb : (asked4 u x a != 0) = false := by simp [h0]
    obtain ⟨hx, hu0, ha0, hut⟩ := asked4_zero h0
    have hc : (caughtE u x a).1 = a.cau u.vs x := by
      unfold caughtE
      rw [if_pos hx, if_pos hu0, if_pos ha0, if_pos hut]
    rw [hc]
    simp (config := {contextual := true, maxSteps := 5000000}) only [go_sem, false_and, Nat.reduceAdd, Nat.reduceLT, Nat.reduceBEq, Nat.reduceSub, Nat.reduceMul, Nat.reduceLeDiff, Int.reduceToNat, Nat.reduceEqDiff, Nat.reduceMod, ht, hl, specCu, toE_at, hb]
    rw [h0]
    exact ⟨⟨hu, ha⟩, by kernel_rfl, hu, ⟨u.vs_lt, ha, right_sh4 ha0⟩, List.Pairwise.nil, Weak.refl _⟩
  · have hb : (asked4 u x a != 0) = true := by simpa using h0
    have hc : (caughtE u x a).1 = 0 := by
      have := asked4_caught u x a
      unfold caughtE at this ⊢
      (repeat' split) <;> simp_all
    rw [hc]
    simp (config := {contextual := true, maxSteps := 5000000}) only [go_sem, false_and, Nat.reduceAdd, Nat.reduceLT, Nat.reduceBEq, Nat.reduceSub, Nat.reduceMul, Nat.reduceLeDiff, Int.reduceToNat, Nat.reduceEqDiff, Nat.reduceMod, ht, hl, specCu, toE_at, hb]
    exact ⟨⟨hu, ha⟩, Weak.refl _⟩
def specFo : Spec := Spec.no.add 124 (sp3 dE dI dE (fun u _ a => u.ok ∧ a.ok) fun u x a => .tup [.int .u64 ((caughtE u x a).1 : Int), .int .i64 (caughtE u x a).2])
theorem specFo_ok : SpecOk Tryz.prog w0 specFo := Spec.no_ok.add (sp3_ok fun u x a h k H => caught04_call u x a h.1 h.2)
theorem freeFor04_call (u : E) (x : Int) (a : E) (hu : u.ok) (ha : a.ok) : CallAt Tryz.prog w0 k 108 [u.av, .int .i64 x, a.av] H H (.tup [.bool (freeForE u x a), .int .i64 (caughtE u x a).2]) := by
  refine callAt tabOk specFo_ok mixed Tryz.func108 rfl rfl Tryz.results108 Tryz.ntmps108 (by simp) [] ?_
  intro hfr t hl ht
  simp only [At, Nat.reduceAdd, List.cons_append, List.nil_append] at ht
  have hz : (((caughtE u x a).1 : Int) == 0) = decide ((caughtE u x a).1 = 0) := by
    rw [Bool.eq_iff_iff, beq_iff_eq, decide_eq_true_eq]
    omega
  by_cases h0 : (caughtE u x a).2 = 0
  · have hb : ((caughtE u x a).2 == 0) = true := by simp [h0]
    have hf : freeForE u x a = decide ((caughtE u x a).1 = 0) := by simp [freeForE, h0]
    rw [hf]
    simp (config := {contextual := true, maxSteps := 5000000}) only [go_sem, false_and, Nat.reduceAdd, Nat.reduceLT, Nat.reduceBEq, Nat.reduceSub, Nat.reduceMul, Nat.reduceLeDiff, Int.reduceToNat, Nat.reduceEqDiff, Nat.reduceMod, ht, hl, specFo, toE_at, hb, hz]
    exact ⟨hu, ha⟩
  · have hb : ((caughtE u x a).2 == 0) = false := by simpa using h0
    have hf : freeForE u x a = false := by simp [freeForE, h0]
    rw [hf]
    simp (config := {contextual := true, maxSteps := 5000000}) only [go_sem, false_and, Nat.reduceAdd, Nat.reduceLT, Nat.reduceBEq, Nat.reduceSub, Nat.reduceMul, Nat.reduceLeDiff, Int.reduceToNat, Nat.reduceEqDiff, Nat.reduceMod, ht, hl, specFo, toE_at, hb]
    exact ⟨hu, ha⟩
end Go.Proofs.YtkdendaohlnlcaaGreat.Av
