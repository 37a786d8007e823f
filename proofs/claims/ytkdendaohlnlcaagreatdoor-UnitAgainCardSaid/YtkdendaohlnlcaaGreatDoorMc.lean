/- A part of the theory and of the contracts: Tab, Av14, Sp, Ex, R02, Av15, Av16, Av17, Av18, Tk0, Tk1, Tk2, Shelf. No condition. -/
import Derived.Test.YtkdendaohlnlcaaGreatDoorMb
import Derived.Test.YtkdendaohlnlcaaGreatDoorChecked
import Derived.Eval
import GoSem.Core.Utf8
import Derived.Lib.SlBytesConst
import Derived.Shelf.Strings.Builder1
import Derived.Shelf.Strings.Builder2
import Derived.Shelf.Strings.OnBuilder
import Derived.Shelf.Small.Utf8
import Derived.Shelf.Small.Strs
import Derived.Shelf.Small.Wraps
import Derived.Shelf.Strconv.Itoa0
import Derived.Shelf.Strconv.Itoa1
import Derived.Shelf.LaysM
import Derived.Shelf.Strconv.Itoa2
import Derived.Shelf.Strconv.Itoa3
import Derived.Shelf.Strconv.Clone
import Derived.Shelf.Strings.Search1
import Derived.Shelf.Strings.Search2
import Derived.Shelf.Strings.Search3
import Derived.Shelf.Strings.Cut
import Derived.Shelf.Strings.Count
import Derived.Shelf.Strings.Shaped
import Derived.Shelf.Strings.Prefix
import Derived.Shelf.Strings.Split
import Derived.Shelf.Strings.Runes
import Derived.Shelf.Unicode.DecodeSlow
import Derived.Test.YtkdendaohlnlcaaGreatDoorProg
/- The types of the translation, as the theory wants them: they are the program's. No condition. -/
namespace Go.Proofs.YtkdendaohlnlcaaGreatDoor.Av

def tab : Tab
  | 1 => some ⟨.func, 1, 8, .nilFunc⟩
  | 2 => some ⟨.int .i64, 1, 8, .int .i64 0⟩
  | 3 => some ⟨.int .i64, 1, 8, .int .i64 0⟩
  | 4 => some ⟨.bool, 1, 1, .bool false⟩
  | 5 => some ⟨.int .u8, 1, 1, .int .u8 0⟩
  | 6 => some ⟨.int .u8, 1, 1, .int .u8 0⟩
  | 7 => some ⟨.struct [(0, 2), (1, 3), (2, 4), (3, 6)], 4, 24, .agg #[.int .i64 0, .int .i64 0, .bool false, .int .u8 0]⟩
  | 8 => some ⟨.struct [(0, 2), (1, 3), (2, 4), (3, 6)], 4, 24, .agg #[.int .i64 0, .int .i64 0, .bool false, .int .u8 0]⟩
  | 9 => some ⟨.string, 1, 16, .string ⟨#[]⟩⟩
  | 10 => some ⟨.string, 1, 16, .string ⟨#[]⟩⟩
  | 11 => some ⟨.string, 1, 16, .string ⟨#[]⟩⟩
  | 12 => some ⟨.int .u64, 1, 8, .int .u64 0⟩
  | 13 => some ⟨.struct [(0, 9), (1, 12)], 2, 24, .agg #[.string ⟨#[]⟩, .int .u64 0]⟩
  | 14 => some ⟨.struct [(0, 9), (1, 12)], 2, 24, .agg #[.string ⟨#[]⟩, .int .u64 0]⟩
  | 15 => some ⟨.pointer 184, 1, 8, .pointer none⟩
  | 16 => some ⟨.pointer 187, 1, 8, .pointer none⟩
  | 17 => some ⟨.pointer 194, 1, 8, .pointer none⟩
  | 18 => some ⟨.struct [(0, 17)], 1, 8, .agg #[.pointer none]⟩
  | 19 => some ⟨.struct [(0, 17)], 1, 8, .agg #[.pointer none]⟩
  | 20 => some ⟨.iface 0, 1, 16, .nilIface⟩
  | 21 => some ⟨.int .i32, 1, 4, .int .i32 0⟩
  | 22 => some ⟨.slice 9, 1, 24, .slice none 0 0⟩
  | 23 => some ⟨.slice 25, 1, 24, .slice none 0 0⟩
  | 24 => some ⟨.struct [(0, 3), (1, 3), (2, 23)], 3, 40, .agg #[.int .i64 0, .int .i64 0, .slice none 0 0]⟩
  | 25 => some ⟨.struct [(0, 3), (1, 3), (2, 23)], 3, 40, .agg #[.int .i64 0, .int .i64 0, .slice none 0 0]⟩
  | 26 => some ⟨.slice 50, 1, 24, .slice none 0 0⟩
  | 27 => some ⟨.struct [(0, 22), (1, 25), (4, 26)], 5, 88, .agg #[.slice none 0 0, .int .i64 0, .int .i64 0, .slice none 0 0, .slice none 0 0]⟩
  | 28 => some ⟨.struct [(0, 22), (1, 25), (4, 26)], 5, 88, .agg #[.slice none 0 0, .int .i64 0, .int .i64 0, .slice none 0 0, .slice none 0 0]⟩
  | 29 => some ⟨.int .i64, 1, 8, .int .i64 0⟩
  | 31 => some ⟨.func, 1, 8, .nilFunc⟩
  | 32 => some ⟨.func, 1, 8, .nilFunc⟩
  | 33 => some ⟨.func, 1, 8, .nilFunc⟩
  | 34 => some ⟨.func, 1, 8, .nilFunc⟩
  | 35 => some ⟨.func, 1, 8, .nilFunc⟩
  | 37 => some ⟨.func, 1, 8, .nilFunc⟩
  | 38 => some ⟨.func, 1, 8, .nilFunc⟩
  | 39 => some ⟨.func, 1, 8, .nilFunc⟩
  | 41 => some ⟨.func, 1, 8, .nilFunc⟩
  | 42 => some ⟨.func, 1, 8, .nilFunc⟩
  | 44 => some ⟨.func, 1, 8, .nilFunc⟩
  | 46 => some ⟨.func, 1, 8, .nilFunc⟩
  | 48 => some ⟨.func, 1, 8, .nilFunc⟩
  | 49 => some ⟨.struct [(0, 25), (3, 3), (4, 3), (5, 3), (6, 9)], 7, 80, .agg #[.int .i64 0, .int .i64 0, .slice none 0 0, .int .i64 0, .int .i64 0, .int .i64 0, .string ⟨#[]⟩]⟩
  | 50 => some ⟨.struct [(0, 25), (3, 3), (4, 3), (5, 3), (6, 9)], 7, 80, .agg #[.int .i64 0, .int .i64 0, .slice none 0 0, .int .i64 0, .int .i64 0, .int .i64 0, .string ⟨#[]⟩]⟩
  | 52 => some ⟨.func, 1, 8, .nilFunc⟩
  | 53 => some ⟨.func, 1, 8, .nilFunc⟩
  | 54 => some ⟨.func, 1, 8, .nilFunc⟩
  | 55 => some ⟨.func, 1, 8, .nilFunc⟩
  | 56 => some ⟨.func, 1, 8, .nilFunc⟩
  | 57 => some ⟨.func, 1, 8, .nilFunc⟩
  | 58 => some ⟨.func, 1, 8, .nilFunc⟩
  | 59 => some ⟨.func, 1, 8, .nilFunc⟩
  | 60 => some ⟨.pointer 63, 1, 8, .pointer none⟩
  | 61 => some ⟨.slice 5, 1, 24, .slice none 0 0⟩
  | 62 => some ⟨.struct [(0, 60), (1, 61)], 2, 32, .agg #[.pointer none, .slice none 0 0]⟩
  | 63 => some ⟨.struct [(0, 60), (1, 61)], 2, 32, .agg #[.pointer none, .slice none 0 0]⟩
  | 64 => some ⟨.iface 1, 1, 16, .nilIface⟩
  | 65 => some ⟨.iface 1, 1, 16, .nilIface⟩
  | 67 => some ⟨.func, 1, 8, .nilFunc⟩
  | 68 => some ⟨.func, 1, 8, .nilFunc⟩
  | 69 => some ⟨.func, 1, 8, .nilFunc⟩
  | 70 => some ⟨.func, 1, 8, .nilFunc⟩
  | 71 => some ⟨.func, 1, 8, .nilFunc⟩
  | 72 => some ⟨.func, 1, 8, .nilFunc⟩
  | 73 => some ⟨.func, 1, 8, .nilFunc⟩
  | 74 => some ⟨.func, 1, 8, .nilFunc⟩
  | 75 => some ⟨.func, 1, 8, .nilFunc⟩
  | 76 => some ⟨.func, 1, 8, .nilFunc⟩
  | 78 => some ⟨.func, 1, 8, .nilFunc⟩
  | 80 => some ⟨.func, 1, 8, .nilFunc⟩
  | 82 => some ⟨.func, 1, 8, .nilFunc⟩
  | 83 => some ⟨.func, 1, 8, .nilFunc⟩
  | 84 => some ⟨.func, 1, 8, .nilFunc⟩
  | 85 => some ⟨.func, 1, 8, .nilFunc⟩
  | 86 => some ⟨.func, 1, 8, .nilFunc⟩
  | 87 => some ⟨.func, 1, 8, .nilFunc⟩
  | 88 => some ⟨.func, 1, 8, .nilFunc⟩
  | 89 => some ⟨.func, 1, 8, .nilFunc⟩
  | 90 => some ⟨.func, 1, 8, .nilFunc⟩
  | 91 => some ⟨.pointer 5, 1, 8, .pointer none⟩
  | 92 => some ⟨.func, 1, 8, .nilFunc⟩
  | 93 => some ⟨.func, 1, 8, .nilFunc⟩
  | 94 => some ⟨.func, 1, 8, .nilFunc⟩
  | 95 => some ⟨.func, 1, 8, .nilFunc⟩
  | 96 => some ⟨.func, 1, 8, .nilFunc⟩
  | 97 => some ⟨.func, 1, 8, .nilFunc⟩
  | 98 => some ⟨.func, 1, 8, .nilFunc⟩
  | 99 => some ⟨.pointer 131, 1, 8, .pointer none⟩
  | 101 => some ⟨.func, 1, 8, .nilFunc⟩
  | 102 => some ⟨.slice 141, 1, 24, .slice none 0 0⟩
  | 104 => some ⟨.func, 1, 8, .nilFunc⟩
  | 105 => some ⟨.func, 1, 8, .nilFunc⟩
  | 106 => some ⟨.struct [(0, 4), (1, 25), (4, 3)], 5, 56, .agg #[.bool false, .int .i64 0, .int .i64 0, .slice none 0 0, .int .i64 0]⟩
  | 107 => some ⟨.struct [(0, 4), (1, 25), (4, 3)], 5, 56, .agg #[.bool false, .int .i64 0, .int .i64 0, .slice none 0 0, .int .i64 0]⟩
  | 108 => some ⟨.func, 1, 8, .nilFunc⟩
  | 109 => some ⟨.func, 1, 8, .nilFunc⟩
  | 110 => some ⟨.iface 1, 1, 16, .nilIface⟩
  | 111 => some ⟨.iface 1, 1, 16, .nilIface⟩
  | 112 => some ⟨.func, 1, 8, .nilFunc⟩
  | 113 => some ⟨.struct [(0, 25), (3, 25)], 6, 80, .agg #[.int .i64 0, .int .i64 0, .slice none 0 0, .int .i64 0, .int .i64 0, .slice none 0 0]⟩
  | 114 => some ⟨.struct [(0, 25), (3, 25)], 6, 80, .agg #[.int .i64 0, .int .i64 0, .slice none 0 0, .int .i64 0, .int .i64 0, .slice none 0 0]⟩
  | 115 => some ⟨.func, 1, 8, .nilFunc⟩
  | 116 => some ⟨.struct [(0, 25), (3, 25)], 6, 80, .agg #[.int .i64 0, .int .i64 0, .slice none 0 0, .int .i64 0, .int .i64 0, .slice none 0 0]⟩
  | 117 => some ⟨.struct [(0, 3), (1, 25)], 4, 48, .agg #[.int .i64 0, .int .i64 0, .int .i64 0, .slice none 0 0]⟩
  | 118 => some ⟨.struct [(0, 3), (1, 25)], 4, 48, .agg #[.int .i64 0, .int .i64 0, .int .i64 0, .slice none 0 0]⟩
  | 119 => some ⟨.func, 1, 8, .nilFunc⟩
  | 120 => some ⟨.func, 1, 8, .nilFunc⟩
  | 121 => some ⟨.func, 1, 8, .nilFunc⟩
  | 122 => some ⟨.unsafeP, 1, 8, .pointer none⟩
  | 123 => some ⟨.func, 1, 8, .nilFunc⟩
  | 124 => some ⟨.func, 1, 8, .nilFunc⟩
  | 125 => some ⟨.func, 1, 8, .nilFunc⟩
  | 126 => some ⟨.func, 1, 8, .nilFunc⟩
  | 127 => some ⟨.func, 1, 8, .nilFunc⟩
  | 128 => some ⟨.func, 1, 8, .nilFunc⟩
  | 129 => some ⟨.func, 1, 8, .nilFunc⟩
  | 130 => some ⟨.struct [(0, 102), (1, 3), (2, 3)], 3, 40, .agg #[.slice none 0 0, .int .i64 0, .int .i64 0]⟩
  | 131 => some ⟨.struct [(0, 102), (1, 3), (2, 3)], 3, 40, .agg #[.slice none 0 0, .int .i64 0, .int .i64 0]⟩
  | 132 => some ⟨.struct [(0, 3)], 1, 8, .agg #[.int .i64 0]⟩
  | 133 => some ⟨.struct [(0, 3)], 1, 8, .agg #[.int .i64 0]⟩
  | 135 => some ⟨.func, 1, 8, .nilFunc⟩
  | 136 => some ⟨.func, 1, 8, .nilFunc⟩
  | 137 => some ⟨.func, 1, 8, .nilFunc⟩
  | 138 => some ⟨.func, 1, 8, .nilFunc⟩
  | 139 => some ⟨.func, 1, 8, .nilFunc⟩
  | 140 => some ⟨.struct [(0, 3), (1, 3), (2, 3)], 3, 24, .agg #[.int .i64 0, .int .i64 0, .int .i64 0]⟩
  | 141 => some ⟨.struct [(0, 3), (1, 3), (2, 3)], 3, 24, .agg #[.int .i64 0, .int .i64 0, .int .i64 0]⟩
  | 142 => some ⟨.func, 1, 8, .nilFunc⟩
  | 143 => some ⟨.func, 1, 8, .nilFunc⟩
  | 144 => some ⟨.func, 1, 8, .nilFunc⟩
  | 145 => some ⟨.func, 1, 8, .nilFunc⟩
  | 146 => some ⟨.func, 1, 8, .nilFunc⟩
  | 147 => some ⟨.func, 1, 8, .nilFunc⟩
  | 148 => some ⟨.func, 1, 8, .nilFunc⟩
  | 149 => some ⟨.func, 1, 8, .nilFunc⟩
  | 150 => some ⟨.array 24 5, 24, 24, .agg #[.int .u8 0, .int .u8 0, .int .u8 0, .int .u8 0, .int .u8 0, .int .u8 0, .int .u8 0, .int .u8 0, .int .u8 0, .int .u8 0, .int .u8 0, .int .u8 0, .int .u8 0, .int .u8 0, .int .u8 0, .int .u8 0, .int .u8 0, .int .u8 0, .int .u8 0, .int .u8 0, .int .u8 0, .int .u8 0, .int .u8 0, .int .u8 0]⟩
  | 151 => some ⟨.int .u64, 1, 8, .int .u64 0⟩
  | 152 => some ⟨.func, 1, 8, .nilFunc⟩
  | 153 => some ⟨.func, 1, 8, .nilFunc⟩
  | 155 => some ⟨.func, 1, 8, .nilFunc⟩
  | 156 => some ⟨.func, 1, 8, .nilFunc⟩
  | 157 => some ⟨.func, 1, 8, .nilFunc⟩
  | 158 => some ⟨.func, 1, 8, .nilFunc⟩
  | 160 => some ⟨.func, 1, 8, .nilFunc⟩
  | 161 => some ⟨.func, 1, 8, .nilFunc⟩
  | 163 => some ⟨.func, 1, 8, .nilFunc⟩
  | 164 => some ⟨.func, 1, 8, .nilFunc⟩
  | 165 => some ⟨.func, 1, 8, .nilFunc⟩
  | 166 => some ⟨.int .u64, 1, 8, .int .u64 0⟩
  | 167 => some ⟨.func, 1, 8, .nilFunc⟩
  | 168 => some ⟨.func, 1, 8, .nilFunc⟩
  | 169 => some ⟨.array 20 151, 20, 160, .agg #[.int .u64 0, .int .u64 0, .int .u64 0, .int .u64 0, .int .u64 0, .int .u64 0, .int .u64 0, .int .u64 0, .int .u64 0, .int .u64 0, .int .u64 0, .int .u64 0, .int .u64 0, .int .u64 0, .int .u64 0, .int .u64 0, .int .u64 0, .int .u64 0, .int .u64 0, .int .u64 0]⟩
  | 170 => some ⟨.int .u32, 1, 4, .int .u32 0⟩
  | 171 => some ⟨.array 65 5, 65, 65, .agg #[.int .u8 0, .int .u8 0, .int .u8 0, .int .u8 0, .int .u8 0, .int .u8 0, .int .u8 0, .int .u8 0, .int .u8 0, .int .u8 0, .int .u8 0, .int .u8 0, .int .u8 0, .int .u8 0, .int .u8 0, .int .u8 0, .int .u8 0, .int .u8 0, .int .u8 0, .int .u8 0, .int .u8 0, .int .u8 0, .int .u8 0, .int .u8 0, .int .u8 0, .int .u8 0, .int .u8 0, .int .u8 0, .int .u8 0, .int .u8 0, .int .u8 0, .int .u8 0, .int .u8 0, .int .u8 0, .int .u8 0, .int .u8 0, .int .u8 0, .int .u8 0, .int .u8 0, .int .u8 0, .int .u8 0, .int .u8 0, .int .u8 0, .int .u8 0, .int .u8 0, .int .u8 0, .int .u8 0, .int .u8 0, .int .u8 0, .int .u8 0, .int .u8 0, .int .u8 0, .int .u8 0, .int .u8 0, .int .u8 0, .int .u8 0, .int .u8 0, .int .u8 0, .int .u8 0, .int .u8 0, .int .u8 0, .int .u8 0, .int .u8 0, .int .u8 0, .int .u8 0]⟩
  | 172 => some ⟨.func, 1, 8, .nilFunc⟩
  | 173 => some ⟨.func, 1, 8, .nilFunc⟩
  | 175 => some ⟨.func, 1, 8, .nilFunc⟩
  | 176 => some ⟨.func, 1, 8, .nilFunc⟩
  | 177 => some ⟨.array 256 5, 256, 256, .agg #[.int .u8 0, .int .u8 0, .int .u8 0, .int .u8 0, .int .u8 0, .int .u8 0, .int .u8 0, .int .u8 0, .int .u8 0, .int .u8 0, .int .u8 0, .int .u8 0, .int .u8 0, .int .u8 0, .int .u8 0, .int .u8 0, .int .u8 0, .int .u8 0, .int .u8 0, .int .u8 0, .int .u8 0, .int .u8 0, .int .u8 0, .int .u8 0, .int .u8 0, .int .u8 0, .int .u8 0, .int .u8 0, .int .u8 0, .int .u8 0, .int .u8 0, .int .u8 0, .int .u8 0, .int .u8 0, .int .u8 0, .int .u8 0, .int .u8 0, .int .u8 0, .int .u8 0, .int .u8 0, .int .u8 0, .int .u8 0, .int .u8 0, .int .u8 0, .int .u8 0, .int .u8 0, .int .u8 0, .int .u8 0, .int .u8 0, .int .u8 0, .int .u8 0, .int .u8 0, .int .u8 0, .int .u8 0, .int .u8 0, .int .u8 0, .int .u8 0, .int .u8 0, .int .u8 0, .int .u8 0, .int .u8 0, .int .u8 0, .int .u8 0, .int .u8 0, .int .u8 0, .int .u8 0, .int .u8 0, .int .u8 0, .int .u8 0, .int .u8 0, .int .u8 0, .int .u8 0, .int .u8 0, .int .u8 0, .int .u8 0, .int .u8 0, .int .u8 0, .int .u8 0, .int .u8 0, .int .u8 0, .int .u8 0, .int .u8 0, .int .u8 0, .int .u8 0, .int .u8 0, .int .u8 0, .int .u8 0, .int .u8 0, .int .u8 0, .int .u8 0, .int .u8 0, .int .u8 0, .int .u8 0, .int .u8 0, .int .u8 0, .int .u8 0, .int .u8 0, .int .u8 0, .int .u8 0, .int .u8 0, .int .u8 0, .int .u8 0, .int .u8 0, .int .u8 0, .int .u8 0, .int .u8 0, .int .u8 0, .int .u8 0, .int .u8 0, .int .u8 0, .int .u8 0, .int .u8 0, .int .u8 0, .int .u8 0, .int .u8 0, .int .u8 0, .int .u8 0, .int .u8 0, .int .u8 0, .int .u8 0, .int .u8 0, .int .u8 0, .int .u8 0, .int .u8 0, .int .u8 0, .int .u8 0, .int .u8 0, .int .u8 0, .int .u8 0, .int .u8 0, .int .u8 0, .int .u8 0, .int .u8 0, .int .u8 0, .int .u8 0, .int .u8 0, .int .u8 0, .int .u8 0, .int .u8 0, .int .u8 0, .int .u8 0, .int .u8 0, .int .u8 0, .int .u8 0, .int .u8 0, .int .u8 0, .int .u8 0, .int .u8 0, .int .u8 0, .int .u8 0, .int .u8 0, .int .u8 0, .int .u8 0, .int .u8 0, .int .u8 0, .int .u8 0, .int .u8 0, .int .u8 0, .int .u8 0, .int .u8 0, .int .u8 0, .int .u8 0, .int .u8 0, .int .u8 0, .int .u8 0, .int .u8 0, .int .u8 0, .int .u8 0, .int .u8 0, .int .u8 0, .int .u8 0, .int .u8 0, .int .u8 0, .int .u8 0, .int .u8 0, .int .u8 0, .int .u8 0, .int .u8 0, .int .u8 0, .int .u8 0, .int .u8 0, .int .u8 0, .int .u8 0, .int .u8 0, .int .u8 0, .int .u8 0, .int .u8 0, .int .u8 0, .int .u8 0, .int .u8 0, .int .u8 0, .int .u8 0, .int .u8 0, .int .u8 0, .int .u8 0, .int .u8 0, .int .u8 0, .int .u8 0, .int .u8 0, .int .u8 0, .int .u8 0, .int .u8 0, .int .u8 0, .int .u8 0, .int .u8 0, .int .u8 0, .int .u8 0, .int .u8 0, .int .u8 0, .int .u8 0, .int .u8 0, .int .u8 0, .int .u8 0, .int .u8 0, .int .u8 0, .int .u8 0, .int .u8 0, .int .u8 0, .int .u8 0, .int .u8 0, .int .u8 0, .int .u8 0, .int .u8 0, .int .u8 0, .int .u8 0, .int .u8 0, .int .u8 0, .int .u8 0, .int .u8 0, .int .u8 0, .int .u8 0, .int .u8 0, .int .u8 0, .int .u8 0, .int .u8 0, .int .u8 0, .int .u8 0, .int .u8 0, .int .u8 0, .int .u8 0, .int .u8 0, .int .u8 0, .int .u8 0, .int .u8 0, .int .u8 0, .int .u8 0, .int .u8 0, .int .u8 0, .int .u8 0, .int .u8 0, .int .u8 0, .int .u8 0, .int .u8 0, .int .u8 0, .int .u8 0, .int .u8 0]⟩
  | 178 => some ⟨.struct [(0, 5), (1, 5)], 2, 2, .agg #[.int .u8 0, .int .u8 0]⟩
  | 179 => some ⟨.struct [(0, 5), (1, 5)], 2, 2, .agg #[.int .u8 0, .int .u8 0]⟩
  | 180 => some ⟨.array 16 179, 32, 32, .agg #[.int .u8 0, .int .u8 0, .int .u8 0, .int .u8 0, .int .u8 0, .int .u8 0, .int .u8 0, .int .u8 0, .int .u8 0, .int .u8 0, .int .u8 0, .int .u8 0, .int .u8 0, .int .u8 0, .int .u8 0, .int .u8 0, .int .u8 0, .int .u8 0, .int .u8 0, .int .u8 0, .int .u8 0, .int .u8 0, .int .u8 0, .int .u8 0, .int .u8 0, .int .u8 0, .int .u8 0, .int .u8 0, .int .u8 0, .int .u8 0, .int .u8 0, .int .u8 0]⟩
  | 181 => some ⟨.array 32 5, 32, 32, .agg #[.int .u8 0, .int .u8 0, .int .u8 0, .int .u8 0, .int .u8 0, .int .u8 0, .int .u8 0, .int .u8 0, .int .u8 0, .int .u8 0, .int .u8 0, .int .u8 0, .int .u8 0, .int .u8 0, .int .u8 0, .int .u8 0, .int .u8 0, .int .u8 0, .int .u8 0, .int .u8 0, .int .u8 0, .int .u8 0, .int .u8 0, .int .u8 0, .int .u8 0, .int .u8 0, .int .u8 0, .int .u8 0, .int .u8 0, .int .u8 0, .int .u8 0, .int .u8 0]⟩
  | 182 => some ⟨.array 64 5, 64, 64, .agg #[.int .u8 0, .int .u8 0, .int .u8 0, .int .u8 0, .int .u8 0, .int .u8 0, .int .u8 0, .int .u8 0, .int .u8 0, .int .u8 0, .int .u8 0, .int .u8 0, .int .u8 0, .int .u8 0, .int .u8 0, .int .u8 0, .int .u8 0, .int .u8 0, .int .u8 0, .int .u8 0, .int .u8 0, .int .u8 0, .int .u8 0, .int .u8 0, .int .u8 0, .int .u8 0, .int .u8 0, .int .u8 0, .int .u8 0, .int .u8 0, .int .u8 0, .int .u8 0, .int .u8 0, .int .u8 0, .int .u8 0, .int .u8 0, .int .u8 0, .int .u8 0, .int .u8 0, .int .u8 0, .int .u8 0, .int .u8 0, .int .u8 0, .int .u8 0, .int .u8 0, .int .u8 0, .int .u8 0, .int .u8 0, .int .u8 0, .int .u8 0, .int .u8 0, .int .u8 0, .int .u8 0, .int .u8 0, .int .u8 0, .int .u8 0, .int .u8 0, .int .u8 0, .int .u8 0, .int .u8 0, .int .u8 0, .int .u8 0, .int .u8 0, .int .u8 0]⟩
  | 183 => some ⟨.struct [(0, 17), (1, 17), (2, 17), (3, 9)], 4, 40, .agg #[.pointer none, .pointer none, .pointer none, .string ⟨#[]⟩]⟩
  | 184 => some ⟨.struct [(0, 17), (1, 17), (2, 17), (3, 9)], 4, 40, .agg #[.pointer none, .pointer none, .pointer none, .string ⟨#[]⟩]⟩
  | 185 => some ⟨.array 0 16, 0, 0, .agg #[]⟩
  | 186 => some ⟨.struct [(0, 185)], 0, 0, .agg #[]⟩
  | 187 => some ⟨.struct [(0, 185)], 0, 0, .agg #[]⟩
  | 188 => some ⟨.int .u8, 1, 1, .int .u8 0⟩
  | 189 => some ⟨.int .u8, 1, 1, .int .u8 0⟩
  | 190 => some ⟨.func, 1, 8, .nilFunc⟩
  | 191 => some ⟨.int .i32, 1, 4, .int .i32 0⟩
  | 192 => some ⟨.int .i32, 1, 4, .int .i32 0⟩
  | 193 => some ⟨.struct [(0, 12), (1, 12), (2, 170), (3, 188), (4, 5), (5, 5), (6, 189), (7, 190), (8, 91), (9, 191), (10, 192)], 11, 48, .agg #[.int .u64 0, .int .u64 0, .int .u32 0, .int .u8 0, .int .u8 0, .int .u8 0, .int .u8 0, .nilFunc, .pointer none, .int .i32 0, .int .i32 0]⟩
  | 194 => some ⟨.struct [(0, 12), (1, 12), (2, 170), (3, 188), (4, 5), (5, 5), (6, 189), (7, 190), (8, 91), (9, 191), (10, 192)], 11, 48, .agg #[.int .u64 0, .int .u64 0, .int .u32 0, .int .u8 0, .int .u8 0, .int .u8 0, .int .u8 0, .nilFunc, .pointer none, .int .i32 0, .int .i32 0]⟩
  | _ => none
@[go_sem] theorem tab_1 : tab 1 = some ⟨.func, 1, 8, .nilFunc⟩ := rfl
@[go_sem] theorem tab_2 : tab 2 = some ⟨.int .i64, 1, 8, .int .i64 0⟩ := rfl
@[go_sem] theorem tab_3 : tab 3 = some ⟨.int .i64, 1, 8, .int .i64 0⟩ := rfl
@[go_sem] theorem tab_4 : tab 4 = some ⟨.bool, 1, 1, .bool false⟩ := rfl
@[go_sem] theorem tab_5 : tab 5 = some ⟨.int .u8, 1, 1, .int .u8 0⟩ := rfl
@[go_sem] theorem tab_6 : tab 6 = some ⟨.int .u8, 1, 1, .int .u8 0⟩ := rfl
@[go_sem] theorem tab_7 : tab 7 = some ⟨.struct [(0, 2), (1, 3), (2, 4), (3, 6)], 4, 24, .agg #[.int .i64 0, .int .i64 0, .bool false, .int .u8 0]⟩ := rfl
@[go_sem] theorem tab_8 : tab 8 = some ⟨.struct [(0, 2), (1, 3), (2, 4), (3, 6)], 4, 24, .agg #[.int .i64 0, .int .i64 0, .bool false, .int .u8 0]⟩ := rfl
@[go_sem] theorem tab_9 : tab 9 = some ⟨.string, 1, 16, .string ⟨#[]⟩⟩ := rfl
@[go_sem] theorem tab_10 : tab 10 = some ⟨.string, 1, 16, .string ⟨#[]⟩⟩ := rfl
@[go_sem] theorem tab_11 : tab 11 = some ⟨.string, 1, 16, .string ⟨#[]⟩⟩ := rfl
@[go_sem] theorem tab_12 : tab 12 = some ⟨.int .u64, 1, 8, .int .u64 0⟩ := rfl
@[go_sem] theorem tab_13 : tab 13 = some ⟨.struct [(0, 9), (1, 12)], 2, 24, .agg #[.string ⟨#[]⟩, .int .u64 0]⟩ := rfl
@[go_sem] theorem tab_14 : tab 14 = some ⟨.struct [(0, 9), (1, 12)], 2, 24, .agg #[.string ⟨#[]⟩, .int .u64 0]⟩ := rfl
@[go_sem] theorem tab_15 : tab 15 = some ⟨.pointer 184, 1, 8, .pointer none⟩ := rfl
@[go_sem] theorem tab_16 : tab 16 = some ⟨.pointer 187, 1, 8, .pointer none⟩ := rfl
@[go_sem] theorem tab_17 : tab 17 = some ⟨.pointer 194, 1, 8, .pointer none⟩ := rfl
@[go_sem] theorem tab_18 : tab 18 = some ⟨.struct [(0, 17)], 1, 8, .agg #[.pointer none]⟩ := rfl
@[go_sem] theorem tab_19 : tab 19 = some ⟨.struct [(0, 17)], 1, 8, .agg #[.pointer none]⟩ := rfl
@[go_sem] theorem tab_20 : tab 20 = some ⟨.iface 0, 1, 16, .nilIface⟩ := rfl
@[go_sem] theorem tab_21 : tab 21 = some ⟨.int .i32, 1, 4, .int .i32 0⟩ := rfl
@[go_sem] theorem tab_22 : tab 22 = some ⟨.slice 9, 1, 24, .slice none 0 0⟩ := rfl
@[go_sem] theorem tab_23 : tab 23 = some ⟨.slice 25, 1, 24, .slice none 0 0⟩ := rfl
@[go_sem] theorem tab_24 : tab 24 = some ⟨.struct [(0, 3), (1, 3), (2, 23)], 3, 40, .agg #[.int .i64 0, .int .i64 0, .slice none 0 0]⟩ := rfl
@[go_sem] theorem tab_25 : tab 25 = some ⟨.struct [(0, 3), (1, 3), (2, 23)], 3, 40, .agg #[.int .i64 0, .int .i64 0, .slice none 0 0]⟩ := rfl
@[go_sem] theorem tab_26 : tab 26 = some ⟨.slice 50, 1, 24, .slice none 0 0⟩ := rfl
@[go_sem] theorem tab_27 : tab 27 = some ⟨.struct [(0, 22), (1, 25), (4, 26)], 5, 88, .agg #[.slice none 0 0, .int .i64 0, .int .i64 0, .slice none 0 0, .slice none 0 0]⟩ := rfl
@[go_sem] theorem tab_28 : tab 28 = some ⟨.struct [(0, 22), (1, 25), (4, 26)], 5, 88, .agg #[.slice none 0 0, .int .i64 0, .int .i64 0, .slice none 0 0, .slice none 0 0]⟩ := rfl
@[go_sem] theorem tab_29 : tab 29 = some ⟨.int .i64, 1, 8, .int .i64 0⟩ := rfl
@[go_sem] theorem tab_31 : tab 31 = some ⟨.func, 1, 8, .nilFunc⟩ := rfl
@[go_sem] theorem tab_32 : tab 32 = some ⟨.func, 1, 8, .nilFunc⟩ := rfl
@[go_sem] theorem tab_33 : tab 33 = some ⟨.func, 1, 8, .nilFunc⟩ := rfl
@[go_sem] theorem tab_34 : tab 34 = some ⟨.func, 1, 8, .nilFunc⟩ := rfl
@[go_sem] theorem tab_35 : tab 35 = some ⟨.func, 1, 8, .nilFunc⟩ := rfl
@[go_sem] theorem tab_37 : tab 37 = some ⟨.func, 1, 8, .nilFunc⟩ := rfl
@[go_sem] theorem tab_38 : tab 38 = some ⟨.func, 1, 8, .nilFunc⟩ := rfl
@[go_sem] theorem tab_39 : tab 39 = some ⟨.func, 1, 8, .nilFunc⟩ := rfl
@[go_sem] theorem tab_41 : tab 41 = some ⟨.func, 1, 8, .nilFunc⟩ := rfl
@[go_sem] theorem tab_42 : tab 42 = some ⟨.func, 1, 8, .nilFunc⟩ := rfl
@[go_sem] theorem tab_44 : tab 44 = some ⟨.func, 1, 8, .nilFunc⟩ := rfl
@[go_sem] theorem tab_46 : tab 46 = some ⟨.func, 1, 8, .nilFunc⟩ := rfl
@[go_sem] theorem tab_48 : tab 48 = some ⟨.func, 1, 8, .nilFunc⟩ := rfl
@[go_sem] theorem tab_49 : tab 49 = some ⟨.struct [(0, 25), (3, 3), (4, 3), (5, 3), (6, 9)], 7, 80, .agg #[.int .i64 0, .int .i64 0, .slice none 0 0, .int .i64 0, .int .i64 0, .int .i64 0, .string ⟨#[]⟩]⟩ := rfl
@[go_sem] theorem tab_50 : tab 50 = some ⟨.struct [(0, 25), (3, 3), (4, 3), (5, 3), (6, 9)], 7, 80, .agg #[.int .i64 0, .int .i64 0, .slice none 0 0, .int .i64 0, .int .i64 0, .int .i64 0, .string ⟨#[]⟩]⟩ := rfl
@[go_sem] theorem tab_52 : tab 52 = some ⟨.func, 1, 8, .nilFunc⟩ := rfl
@[go_sem] theorem tab_53 : tab 53 = some ⟨.func, 1, 8, .nilFunc⟩ := rfl
@[go_sem] theorem tab_54 : tab 54 = some ⟨.func, 1, 8, .nilFunc⟩ := rfl
@[go_sem] theorem tab_55 : tab 55 = some ⟨.func, 1, 8, .nilFunc⟩ := rfl
@[go_sem] theorem tab_56 : tab 56 = some ⟨.func, 1, 8, .nilFunc⟩ := rfl
@[go_sem] theorem tab_57 : tab 57 = some ⟨.func, 1, 8, .nilFunc⟩ := rfl
@[go_sem] theorem tab_58 : tab 58 = some ⟨.func, 1, 8, .nilFunc⟩ := rfl
@[go_sem] theorem tab_59 : tab 59 = some ⟨.func, 1, 8, .nilFunc⟩ := rfl
@[go_sem] theorem tab_60 : tab 60 = some ⟨.pointer 63, 1, 8, .pointer none⟩ := rfl
@[go_sem] theorem tab_61 : tab 61 = some ⟨.slice 5, 1, 24, .slice none 0 0⟩ := rfl
@[go_sem] theorem tab_62 : tab 62 = some ⟨.struct [(0, 60), (1, 61)], 2, 32, .agg #[.pointer none, .slice none 0 0]⟩ := rfl
@[go_sem] theorem tab_63 : tab 63 = some ⟨.struct [(0, 60), (1, 61)], 2, 32, .agg #[.pointer none, .slice none 0 0]⟩ := rfl
@[go_sem] theorem tab_64 : tab 64 = some ⟨.iface 1, 1, 16, .nilIface⟩ := rfl
@[go_sem] theorem tab_65 : tab 65 = some ⟨.iface 1, 1, 16, .nilIface⟩ := rfl
@[go_sem] theorem tab_67 : tab 67 = some ⟨.func, 1, 8, .nilFunc⟩ := rfl
@[go_sem] theorem tab_68 : tab 68 = some ⟨.func, 1, 8, .nilFunc⟩ := rfl
@[go_sem] theorem tab_69 : tab 69 = some ⟨.func, 1, 8, .nilFunc⟩ := rfl
@[go_sem] theorem tab_70 : tab 70 = some ⟨.func, 1, 8, .nilFunc⟩ := rfl
@[go_sem] theorem tab_71 : tab 71 = some ⟨.func, 1, 8, .nilFunc⟩ := rfl
@[go_sem] theorem tab_72 : tab 72 = some ⟨.func, 1, 8, .nilFunc⟩ := rfl
@[go_sem] theorem tab_73 : tab 73 = some ⟨.func, 1, 8, .nilFunc⟩ := rfl
@[go_sem] theorem tab_74 : tab 74 = some ⟨.func, 1, 8, .nilFunc⟩ := rfl
@[go_sem] theorem tab_75 : tab 75 = some ⟨.func, 1, 8, .nilFunc⟩ := rfl
@[go_sem] theorem tab_76 : tab 76 = some ⟨.func, 1, 8, .nilFunc⟩ := rfl
@[go_sem] theorem tab_78 : tab 78 = some ⟨.func, 1, 8, .nilFunc⟩ := rfl
@[go_sem] theorem tab_80 : tab 80 = some ⟨.func, 1, 8, .nilFunc⟩ := rfl
@[go_sem] theorem tab_82 : tab 82 = some ⟨.func, 1, 8, .nilFunc⟩ := rfl
@[go_sem] theorem tab_83 : tab 83 = some ⟨.func, 1, 8, .nilFunc⟩ := rfl
@[go_sem] theorem tab_84 : tab 84 = some ⟨.func, 1, 8, .nilFunc⟩ := rfl
@[go_sem] theorem tab_85 : tab 85 = some ⟨.func, 1, 8, .nilFunc⟩ := rfl
@[go_sem] theorem tab_86 : tab 86 = some ⟨.func, 1, 8, .nilFunc⟩ := rfl
@[go_sem] theorem tab_87 : tab 87 = some ⟨.func, 1, 8, .nilFunc⟩ := rfl
@[go_sem] theorem tab_88 : tab 88 = some ⟨.func, 1, 8, .nilFunc⟩ := rfl
@[go_sem] theorem tab_89 : tab 89 = some ⟨.func, 1, 8, .nilFunc⟩ := rfl
@[go_sem] theorem tab_90 : tab 90 = some ⟨.func, 1, 8, .nilFunc⟩ := rfl
@[go_sem] theorem tab_91 : tab 91 = some ⟨.pointer 5, 1, 8, .pointer none⟩ := rfl
@[go_sem] theorem tab_92 : tab 92 = some ⟨.func, 1, 8, .nilFunc⟩ := rfl
@[go_sem] theorem tab_93 : tab 93 = some ⟨.func, 1, 8, .nilFunc⟩ := rfl
@[go_sem] theorem tab_94 : tab 94 = some ⟨.func, 1, 8, .nilFunc⟩ := rfl
@[go_sem] theorem tab_95 : tab 95 = some ⟨.func, 1, 8, .nilFunc⟩ := rfl
@[go_sem] theorem tab_96 : tab 96 = some ⟨.func, 1, 8, .nilFunc⟩ := rfl
@[go_sem] theorem tab_97 : tab 97 = some ⟨.func, 1, 8, .nilFunc⟩ := rfl
@[go_sem] theorem tab_98 : tab 98 = some ⟨.func, 1, 8, .nilFunc⟩ := rfl
@[go_sem] theorem tab_99 : tab 99 = some ⟨.pointer 131, 1, 8, .pointer none⟩ := rfl
@[go_sem] theorem tab_101 : tab 101 = some ⟨.func, 1, 8, .nilFunc⟩ := rfl
@[go_sem] theorem tab_102 : tab 102 = some ⟨.slice 141, 1, 24, .slice none 0 0⟩ := rfl
@[go_sem] theorem tab_104 : tab 104 = some ⟨.func, 1, 8, .nilFunc⟩ := rfl
@[go_sem] theorem tab_105 : tab 105 = some ⟨.func, 1, 8, .nilFunc⟩ := rfl
@[go_sem] theorem tab_106 : tab 106 = some ⟨.struct [(0, 4), (1, 25), (4, 3)], 5, 56, .agg #[.bool false, .int .i64 0, .int .i64 0, .slice none 0 0, .int .i64 0]⟩ := rfl
@[go_sem] theorem tab_107 : tab 107 = some ⟨.struct [(0, 4), (1, 25), (4, 3)], 5, 56, .agg #[.bool false, .int .i64 0, .int .i64 0, .slice none 0 0, .int .i64 0]⟩ := rfl
@[go_sem] theorem tab_108 : tab 108 = some ⟨.func, 1, 8, .nilFunc⟩ := rfl
@[go_sem] theorem tab_109 : tab 109 = some ⟨.func, 1, 8, .nilFunc⟩ := rfl
@[go_sem] theorem tab_110 : tab 110 = some ⟨.iface 1, 1, 16, .nilIface⟩ := rfl
@[go_sem] theorem tab_111 : tab 111 = some ⟨.iface 1, 1, 16, .nilIface⟩ := rfl
@[go_sem] theorem tab_112 : tab 112 = some ⟨.func, 1, 8, .nilFunc⟩ := rfl
@[go_sem] theorem tab_113 : tab 113 = some ⟨.struct [(0, 25), (3, 25)], 6, 80, .agg #[.int .i64 0, .int .i64 0, .slice none 0 0, .int .i64 0, .int .i64 0, .slice none 0 0]⟩ := rfl
@[go_sem] theorem tab_114 : tab 114 = some ⟨.struct [(0, 25), (3, 25)], 6, 80, .agg #[.int .i64 0, .int .i64 0, .slice none 0 0, .int .i64 0, .int .i64 0, .slice none 0 0]⟩ := rfl
@[go_sem] theorem tab_115 : tab 115 = some ⟨.func, 1, 8, .nilFunc⟩ := rfl
@[go_sem] theorem tab_116 : tab 116 = some ⟨.struct [(0, 25), (3, 25)], 6, 80, .agg #[.int .i64 0, .int .i64 0, .slice none 0 0, .int .i64 0, .int .i64 0, .slice none 0 0]⟩ := rfl
@[go_sem] theorem tab_117 : tab 117 = some ⟨.struct [(0, 3), (1, 25)], 4, 48, .agg #[.int .i64 0, .int .i64 0, .int .i64 0, .slice none 0 0]⟩ := rfl
@[go_sem] theorem tab_118 : tab 118 = some ⟨.struct [(0, 3), (1, 25)], 4, 48, .agg #[.int .i64 0, .int .i64 0, .int .i64 0, .slice none 0 0]⟩ := rfl
@[go_sem] theorem tab_119 : tab 119 = some ⟨.func, 1, 8, .nilFunc⟩ := rfl
@[go_sem] theorem tab_120 : tab 120 = some ⟨.func, 1, 8, .nilFunc⟩ := rfl
@[go_sem] theorem tab_121 : tab 121 = some ⟨.func, 1, 8, .nilFunc⟩ := rfl
@[go_sem] theorem tab_122 : tab 122 = some ⟨.unsafeP, 1, 8, .pointer none⟩ := rfl
@[go_sem] theorem tab_123 : tab 123 = some ⟨.func, 1, 8, .nilFunc⟩ := rfl
@[go_sem] theorem tab_124 : tab 124 = some ⟨.func, 1, 8, .nilFunc⟩ := rfl
@[go_sem] theorem tab_125 : tab 125 = some ⟨.func, 1, 8, .nilFunc⟩ := rfl
@[go_sem] theorem tab_126 : tab 126 = some ⟨.func, 1, 8, .nilFunc⟩ := rfl
@[go_sem] theorem tab_127 : tab 127 = some ⟨.func, 1, 8, .nilFunc⟩ := rfl
@[go_sem] theorem tab_128 : tab 128 = some ⟨.func, 1, 8, .nilFunc⟩ := rfl
@[go_sem] theorem tab_129 : tab 129 = some ⟨.func, 1, 8, .nilFunc⟩ := rfl
@[go_sem] theorem tab_130 : tab 130 = some ⟨.struct [(0, 102), (1, 3), (2, 3)], 3, 40, .agg #[.slice none 0 0, .int .i64 0, .int .i64 0]⟩ := rfl
@[go_sem] theorem tab_131 : tab 131 = some ⟨.struct [(0, 102), (1, 3), (2, 3)], 3, 40, .agg #[.slice none 0 0, .int .i64 0, .int .i64 0]⟩ := rfl
@[go_sem] theorem tab_132 : tab 132 = some ⟨.struct [(0, 3)], 1, 8, .agg #[.int .i64 0]⟩ := rfl
@[go_sem] theorem tab_133 : tab 133 = some ⟨.struct [(0, 3)], 1, 8, .agg #[.int .i64 0]⟩ := rfl
@[go_sem] theorem tab_135 : tab 135 = some ⟨.func, 1, 8, .nilFunc⟩ := rfl
@[go_sem] theorem tab_136 : tab 136 = some ⟨.func, 1, 8, .nilFunc⟩ := rfl
@[go_sem] theorem tab_137 : tab 137 = some ⟨.func, 1, 8, .nilFunc⟩ := rfl
@[go_sem] theorem tab_138 : tab 138 = some ⟨.func, 1, 8, .nilFunc⟩ := rfl
@[go_sem] theorem tab_139 : tab 139 = some ⟨.func, 1, 8, .nilFunc⟩ := rfl
@[go_sem] theorem tab_140 : tab 140 = some ⟨.struct [(0, 3), (1, 3), (2, 3)], 3, 24, .agg #[.int .i64 0, .int .i64 0, .int .i64 0]⟩ := rfl
@[go_sem] theorem tab_141 : tab 141 = some ⟨.struct [(0, 3), (1, 3), (2, 3)], 3, 24, .agg #[.int .i64 0, .int .i64 0, .int .i64 0]⟩ := rfl
@[go_sem] theorem tab_142 : tab 142 = some ⟨.func, 1, 8, .nilFunc⟩ := rfl
@[go_sem] theorem tab_143 : tab 143 = some ⟨.func, 1, 8, .nilFunc⟩ := rfl
@[go_sem] theorem tab_144 : tab 144 = some ⟨.func, 1, 8, .nilFunc⟩ := rfl
@[go_sem] theorem tab_145 : tab 145 = some ⟨.func, 1, 8, .nilFunc⟩ := rfl
@[go_sem] theorem tab_146 : tab 146 = some ⟨.func, 1, 8, .nilFunc⟩ := rfl
@[go_sem] theorem tab_147 : tab 147 = some ⟨.func, 1, 8, .nilFunc⟩ := rfl
@[go_sem] theorem tab_148 : tab 148 = some ⟨.func, 1, 8, .nilFunc⟩ := rfl
@[go_sem] theorem tab_149 : tab 149 = some ⟨.func, 1, 8, .nilFunc⟩ := rfl
@[go_sem] theorem tab_150 : tab 150 = some ⟨.array 24 5, 24, 24, .agg #[.int .u8 0, .int .u8 0, .int .u8 0, .int .u8 0, .int .u8 0, .int .u8 0, .int .u8 0, .int .u8 0, .int .u8 0, .int .u8 0, .int .u8 0, .int .u8 0, .int .u8 0, .int .u8 0, .int .u8 0, .int .u8 0, .int .u8 0, .int .u8 0, .int .u8 0, .int .u8 0, .int .u8 0, .int .u8 0, .int .u8 0, .int .u8 0]⟩ := rfl
@[go_sem] theorem tab_151 : tab 151 = some ⟨.int .u64, 1, 8, .int .u64 0⟩ := rfl
@[go_sem] theorem tab_152 : tab 152 = some ⟨.func, 1, 8, .nilFunc⟩ := rfl
@[go_sem] theorem tab_153 : tab 153 = some ⟨.func, 1, 8, .nilFunc⟩ := rfl
@[go_sem] theorem tab_155 : tab 155 = some ⟨.func, 1, 8, .nilFunc⟩ := rfl
@[go_sem] theorem tab_156 : tab 156 = some ⟨.func, 1, 8, .nilFunc⟩ := rfl
@[go_sem] theorem tab_157 : tab 157 = some ⟨.func, 1, 8, .nilFunc⟩ := rfl
@[go_sem] theorem tab_158 : tab 158 = some ⟨.func, 1, 8, .nilFunc⟩ := rfl
@[go_sem] theorem tab_160 : tab 160 = some ⟨.func, 1, 8, .nilFunc⟩ := rfl
@[go_sem] theorem tab_161 : tab 161 = some ⟨.func, 1, 8, .nilFunc⟩ := rfl
@[go_sem] theorem tab_163 : tab 163 = some ⟨.func, 1, 8, .nilFunc⟩ := rfl
@[go_sem] theorem tab_164 : tab 164 = some ⟨.func, 1, 8, .nilFunc⟩ := rfl
@[go_sem] theorem tab_165 : tab 165 = some ⟨.func, 1, 8, .nilFunc⟩ := rfl
@[go_sem] theorem tab_166 : tab 166 = some ⟨.int .u64, 1, 8, .int .u64 0⟩ := rfl
@[go_sem] theorem tab_167 : tab 167 = some ⟨.func, 1, 8, .nilFunc⟩ := rfl
@[go_sem] theorem tab_168 : tab 168 = some ⟨.func, 1, 8, .nilFunc⟩ := rfl
@[go_sem] theorem tab_169 : tab 169 = some ⟨.array 20 151, 20, 160, .agg #[.int .u64 0, .int .u64 0, .int .u64 0, .int .u64 0, .int .u64 0, .int .u64 0, .int .u64 0, .int .u64 0, .int .u64 0, .int .u64 0, .int .u64 0, .int .u64 0, .int .u64 0, .int .u64 0, .int .u64 0, .int .u64 0, .int .u64 0, .int .u64 0, .int .u64 0, .int .u64 0]⟩ := rfl
@[go_sem] theorem tab_170 : tab 170 = some ⟨.int .u32, 1, 4, .int .u32 0⟩ := rfl
@[go_sem] theorem tab_171 : tab 171 = some ⟨.array 65 5, 65, 65, .agg #[.int .u8 0, .int .u8 0, .int .u8 0, .int .u8 0, .int .u8 0, .int .u8 0, .int .u8 0, .int .u8 0, .int .u8 0, .int .u8 0, .int .u8 0, .int .u8 0, .int .u8 0, .int .u8 0, .int .u8 0, .int .u8 0, .int .u8 0, .int .u8 0, .int .u8 0, .int .u8 0, .int .u8 0, .int .u8 0, .int .u8 0, .int .u8 0, .int .u8 0, .int .u8 0, .int .u8 0, .int .u8 0, .int .u8 0, .int .u8 0, .int .u8 0, .int .u8 0, .int .u8 0, .int .u8 0, .int .u8 0, .int .u8 0, .int .u8 0, .int .u8 0, .int .u8 0, .int .u8 0, .int .u8 0, .int .u8 0, .int .u8 0, .int .u8 0, .int .u8 0, .int .u8 0, .int .u8 0, .int .u8 0, .int .u8 0, .int .u8 0, .int .u8 0, .int .u8 0, .int .u8 0, .int .u8 0, .int .u8 0, .int .u8 0, .int .u8 0, .int .u8 0, .int .u8 0, .int .u8 0, .int .u8 0, .int .u8 0, .int .u8 0, .int .u8 0, .int .u8 0]⟩ := rfl
@[go_sem] theorem tab_172 : tab 172 = some ⟨.func, 1, 8, .nilFunc⟩ := rfl
@[go_sem] theorem tab_173 : tab 173 = some ⟨.func, 1, 8, .nilFunc⟩ := rfl
@[go_sem] theorem tab_175 : tab 175 = some ⟨.func, 1, 8, .nilFunc⟩ := rfl
@[go_sem] theorem tab_176 : tab 176 = some ⟨.func, 1, 8, .nilFunc⟩ := rfl
@[go_sem] theorem tab_177 : tab 177 = some ⟨.array 256 5, 256, 256, .agg #[.int .u8 0, .int .u8 0, .int .u8 0, .int .u8 0, .int .u8 0, .int .u8 0, .int .u8 0, .int .u8 0, .int .u8 0, .int .u8 0, .int .u8 0, .int .u8 0, .int .u8 0, .int .u8 0, .int .u8 0, .int .u8 0, .int .u8 0, .int .u8 0, .int .u8 0, .int .u8 0, .int .u8 0, .int .u8 0, .int .u8 0, .int .u8 0, .int .u8 0, .int .u8 0, .int .u8 0, .int .u8 0, .int .u8 0, .int .u8 0, .int .u8 0, .int .u8 0, .int .u8 0, .int .u8 0, .int .u8 0, .int .u8 0, .int .u8 0, .int .u8 0, .int .u8 0, .int .u8 0, .int .u8 0, .int .u8 0, .int .u8 0, .int .u8 0, .int .u8 0, .int .u8 0, .int .u8 0, .int .u8 0, .int .u8 0, .int .u8 0, .int .u8 0, .int .u8 0, .int .u8 0, .int .u8 0, .int .u8 0, .int .u8 0, .int .u8 0, .int .u8 0, .int .u8 0, .int .u8 0, .int .u8 0, .int .u8 0, .int .u8 0, .int .u8 0, .int .u8 0, .int .u8 0, .int .u8 0, .int .u8 0, .int .u8 0, .int .u8 0, .int .u8 0, .int .u8 0, .int .u8 0, .int .u8 0, .int .u8 0, .int .u8 0, .int .u8 0, .int .u8 0, .int .u8 0, .int .u8 0, .int .u8 0, .int .u8 0, .int .u8 0, .int .u8 0, .int .u8 0, .int .u8 0, .int .u8 0, .int .u8 0, .int .u8 0, .int .u8 0, .int .u8 0, .int .u8 0, .int .u8 0, .int .u8 0, .int .u8 0, .int .u8 0, .int .u8 0, .int .u8 0, .int .u8 0, .int .u8 0, .int .u8 0, .int .u8 0, .int .u8 0, .int .u8 0, .int .u8 0, .int .u8 0, .int .u8 0, .int .u8 0, .int .u8 0, .int .u8 0, .int .u8 0, .int .u8 0, .int .u8 0, .int .u8 0, .int .u8 0, .int .u8 0, .int .u8 0, .int .u8 0, .int .u8 0, .int .u8 0, .int .u8 0, .int .u8 0, .int .u8 0, .int .u8 0, .int .u8 0, .int .u8 0, .int .u8 0, .int .u8 0, .int .u8 0, .int .u8 0, .int .u8 0, .int .u8 0, .int .u8 0, .int .u8 0, .int .u8 0, .int .u8 0, .int .u8 0, .int .u8 0, .int .u8 0, .int .u8 0, .int .u8 0, .int .u8 0, .int .u8 0, .int .u8 0, .int .u8 0, .int .u8 0, .int .u8 0, .int .u8 0, .int .u8 0, .int .u8 0, .int .u8 0, .int .u8 0, .int .u8 0, .int .u8 0, .int .u8 0, .int .u8 0, .int .u8 0, .int .u8 0, .int .u8 0, .int .u8 0, .int .u8 0, .int .u8 0, .int .u8 0, .int .u8 0, .int .u8 0, .int .u8 0, .int .u8 0, .int .u8 0, .int .u8 0, .int .u8 0, .int .u8 0, .int .u8 0, .int .u8 0, .int .u8 0, .int .u8 0, .int .u8 0, .int .u8 0, .int .u8 0, .int .u8 0, .int .u8 0, .int .u8 0, .int .u8 0, .int .u8 0, .int .u8 0, .int .u8 0, .int .u8 0, .int .u8 0, .int .u8 0, .int .u8 0, .int .u8 0, .int .u8 0, .int .u8 0, .int .u8 0, .int .u8 0, .int .u8 0, .int .u8 0, .int .u8 0, .int .u8 0, .int .u8 0, .int .u8 0, .int .u8 0, .int .u8 0, .int .u8 0, .int .u8 0, .int .u8 0, .int .u8 0, .int .u8 0, .int .u8 0, .int .u8 0, .int .u8 0, .int .u8 0, .int .u8 0, .int .u8 0, .int .u8 0, .int .u8 0, .int .u8 0, .int .u8 0, .int .u8 0, .int .u8 0, .int .u8 0, .int .u8 0, .int .u8 0, .int .u8 0, .int .u8 0, .int .u8 0, .int .u8 0, .int .u8 0, .int .u8 0, .int .u8 0, .int .u8 0, .int .u8 0, .int .u8 0, .int .u8 0, .int .u8 0, .int .u8 0, .int .u8 0, .int .u8 0, .int .u8 0, .int .u8 0, .int .u8 0, .int .u8 0, .int .u8 0, .int .u8 0, .int .u8 0, .int .u8 0, .int .u8 0, .int .u8 0, .int .u8 0, .int .u8 0, .int .u8 0, .int .u8 0, .int .u8 0, .int .u8 0, .int .u8 0, .int .u8 0, .int .u8 0]⟩ := rfl
@[go_sem] theorem tab_178 : tab 178 = some ⟨.struct [(0, 5), (1, 5)], 2, 2, .agg #[.int .u8 0, .int .u8 0]⟩ := rfl
@[go_sem] theorem tab_179 : tab 179 = some ⟨.struct [(0, 5), (1, 5)], 2, 2, .agg #[.int .u8 0, .int .u8 0]⟩ := rfl
@[go_sem] theorem tab_180 : tab 180 = some ⟨.array 16 179, 32, 32, .agg #[.int .u8 0, .int .u8 0, .int .u8 0, .int .u8 0, .int .u8 0, .int .u8 0, .int .u8 0, .int .u8 0, .int .u8 0, .int .u8 0, .int .u8 0, .int .u8 0, .int .u8 0, .int .u8 0, .int .u8 0, .int .u8 0, .int .u8 0, .int .u8 0, .int .u8 0, .int .u8 0, .int .u8 0, .int .u8 0, .int .u8 0, .int .u8 0, .int .u8 0, .int .u8 0, .int .u8 0, .int .u8 0, .int .u8 0, .int .u8 0, .int .u8 0, .int .u8 0]⟩ := rfl
@[go_sem] theorem tab_181 : tab 181 = some ⟨.array 32 5, 32, 32, .agg #[.int .u8 0, .int .u8 0, .int .u8 0, .int .u8 0, .int .u8 0, .int .u8 0, .int .u8 0, .int .u8 0, .int .u8 0, .int .u8 0, .int .u8 0, .int .u8 0, .int .u8 0, .int .u8 0, .int .u8 0, .int .u8 0, .int .u8 0, .int .u8 0, .int .u8 0, .int .u8 0, .int .u8 0, .int .u8 0, .int .u8 0, .int .u8 0, .int .u8 0, .int .u8 0, .int .u8 0, .int .u8 0, .int .u8 0, .int .u8 0, .int .u8 0, .int .u8 0]⟩ := rfl
@[go_sem] theorem tab_182 : tab 182 = some ⟨.array 64 5, 64, 64, .agg #[.int .u8 0, .int .u8 0, .int .u8 0, .int .u8 0, .int .u8 0, .int .u8 0, .int .u8 0, .int .u8 0, .int .u8 0, .int .u8 0, .int .u8 0, .int .u8 0, .int .u8 0, .int .u8 0, .int .u8 0, .int .u8 0, .int .u8 0, .int .u8 0, .int .u8 0, .int .u8 0, .int .u8 0, .int .u8 0, .int .u8 0, .int .u8 0, .int .u8 0, .int .u8 0, .int .u8 0, .int .u8 0, .int .u8 0, .int .u8 0, .int .u8 0, .int .u8 0, .int .u8 0, .int .u8 0, .int .u8 0, .int .u8 0, .int .u8 0, .int .u8 0, .int .u8 0, .int .u8 0, .int .u8 0, .int .u8 0, .int .u8 0, .int .u8 0, .int .u8 0, .int .u8 0, .int .u8 0, .int .u8 0, .int .u8 0, .int .u8 0, .int .u8 0, .int .u8 0, .int .u8 0, .int .u8 0, .int .u8 0, .int .u8 0, .int .u8 0, .int .u8 0, .int .u8 0, .int .u8 0, .int .u8 0, .int .u8 0, .int .u8 0, .int .u8 0]⟩ := rfl
@[go_sem] theorem tab_183 : tab 183 = some ⟨.struct [(0, 17), (1, 17), (2, 17), (3, 9)], 4, 40, .agg #[.pointer none, .pointer none, .pointer none, .string ⟨#[]⟩]⟩ := rfl
@[go_sem] theorem tab_184 : tab 184 = some ⟨.struct [(0, 17), (1, 17), (2, 17), (3, 9)], 4, 40, .agg #[.pointer none, .pointer none, .pointer none, .string ⟨#[]⟩]⟩ := rfl
@[go_sem] theorem tab_185 : tab 185 = some ⟨.array 0 16, 0, 0, .agg #[]⟩ := rfl
@[go_sem] theorem tab_186 : tab 186 = some ⟨.struct [(0, 185)], 0, 0, .agg #[]⟩ := rfl
@[go_sem] theorem tab_187 : tab 187 = some ⟨.struct [(0, 185)], 0, 0, .agg #[]⟩ := rfl
@[go_sem] theorem tab_188 : tab 188 = some ⟨.int .u8, 1, 1, .int .u8 0⟩ := rfl
@[go_sem] theorem tab_189 : tab 189 = some ⟨.int .u8, 1, 1, .int .u8 0⟩ := rfl
@[go_sem] theorem tab_190 : tab 190 = some ⟨.func, 1, 8, .nilFunc⟩ := rfl
@[go_sem] theorem tab_191 : tab 191 = some ⟨.int .i32, 1, 4, .int .i32 0⟩ := rfl
@[go_sem] theorem tab_192 : tab 192 = some ⟨.int .i32, 1, 4, .int .i32 0⟩ := rfl
@[go_sem] theorem tab_193 : tab 193 = some ⟨.struct [(0, 12), (1, 12), (2, 170), (3, 188), (4, 5), (5, 5), (6, 189), (7, 190), (8, 91), (9, 191), (10, 192)], 11, 48, .agg #[.int .u64 0, .int .u64 0, .int .u32 0, .int .u8 0, .int .u8 0, .int .u8 0, .int .u8 0, .nilFunc, .pointer none, .int .i32 0, .int .i32 0]⟩ := rfl
@[go_sem] theorem tab_194 : tab 194 = some ⟨.struct [(0, 12), (1, 12), (2, 170), (3, 188), (4, 5), (5, 5), (6, 189), (7, 190), (8, 91), (9, 191), (10, 192)], 11, 48, .agg #[.int .u64 0, .int .u64 0, .int .u32 0, .int .u8 0, .int .u8 0, .int .u8 0, .int .u8 0, .nilFunc, .pointer none, .int .i32 0, .int .i32 0]⟩ := rfl

set_option maxRecDepth 100000 in
theorem tabOk : TabOk Tryz.prog tab := by
  intro t ti e
  unfold tab at e
  split at e
  · cases e; exact ⟨_, _, Tryz.type1, Tryz.underlying1, rfl, rfl, rfl, rfl⟩
  · cases e; exact ⟨_, _, Tryz.type2, Tryz.underlying2, rfl, rfl, rfl, rfl⟩
  · cases e; exact ⟨_, _, Tryz.type3, Tryz.underlying3, rfl, rfl, rfl, rfl⟩
  · cases e; exact ⟨_, _, Tryz.type4, Tryz.underlying4, rfl, rfl, rfl, rfl⟩
  · cases e; exact ⟨_, _, Tryz.type5, Tryz.underlying5, rfl, rfl, rfl, rfl⟩
  · cases e; exact ⟨_, _, Tryz.type6, Tryz.underlying6, rfl, rfl, rfl, rfl⟩
  · cases e; exact ⟨_, _, Tryz.type7, Tryz.underlying7, rfl, rfl, rfl, rfl⟩
  · cases e; exact ⟨_, _, Tryz.type8, Tryz.underlying8, rfl, rfl, rfl, rfl⟩
  · cases e; exact ⟨_, _, Tryz.type9, Tryz.underlying9, rfl, rfl, rfl, rfl⟩
  · cases e; exact ⟨_, _, Tryz.type10, Tryz.underlying10, rfl, rfl, rfl, rfl⟩
  · cases e; exact ⟨_, _, Tryz.type11, Tryz.underlying11, rfl, rfl, rfl, rfl⟩
  · cases e; exact ⟨_, _, Tryz.type12, Tryz.underlying12, rfl, rfl, rfl, rfl⟩
  · cases e; exact ⟨_, _, Tryz.type13, Tryz.underlying13, rfl, rfl, rfl, rfl⟩
  · cases e; exact ⟨_, _, Tryz.type14, Tryz.underlying14, rfl, rfl, rfl, rfl⟩
  · cases e; exact ⟨_, _, Tryz.type15, Tryz.underlying15, rfl, rfl, rfl, rfl⟩
  · cases e; exact ⟨_, _, Tryz.type16, Tryz.underlying16, rfl, rfl, rfl, rfl⟩
  · cases e; exact ⟨_, _, Tryz.type17, Tryz.underlying17, rfl, rfl, rfl, rfl⟩
  · cases e; exact ⟨_, _, Tryz.type18, Tryz.underlying18, rfl, rfl, rfl, rfl⟩
  · cases e; exact ⟨_, _, Tryz.type19, Tryz.underlying19, rfl, rfl, rfl, rfl⟩
  · cases e; exact ⟨_, _, Tryz.type20, Tryz.underlying20, rfl, rfl, rfl, rfl⟩
  · cases e; exact ⟨_, _, Tryz.type21, Tryz.underlying21, rfl, rfl, rfl, rfl⟩
  · cases e; exact ⟨_, _, Tryz.type22, Tryz.underlying22, rfl, rfl, rfl, rfl⟩
  · cases e; exact ⟨_, _, Tryz.type23, Tryz.underlying23, rfl, rfl, rfl, rfl⟩
  · cases e; exact ⟨_, _, Tryz.type24, Tryz.underlying24, rfl, rfl, rfl, rfl⟩
  · cases e; exact ⟨_, _, Tryz.type25, Tryz.underlying25, rfl, rfl, rfl, rfl⟩
  · cases e; exact ⟨_, _, Tryz.type26, Tryz.underlying26, rfl, rfl, rfl, rfl⟩
  · cases e; exact ⟨_, _, Tryz.type27, Tryz.underlying27, rfl, rfl, rfl, rfl⟩
  · cases e; exact ⟨_, _, Tryz.type28, Tryz.underlying28, rfl, rfl, rfl, rfl⟩
  · cases e; exact ⟨_, _, Tryz.type29, Tryz.underlying29, rfl, rfl, rfl, rfl⟩
  · cases e; exact ⟨_, _, Tryz.type31, Tryz.underlying31, rfl, rfl, rfl, rfl⟩
  · cases e; exact ⟨_, _, Tryz.type32, Tryz.underlying32, rfl, rfl, rfl, rfl⟩
  · cases e; exact ⟨_, _, Tryz.type33, Tryz.underlying33, rfl, rfl, rfl, rfl⟩
  · cases e; exact ⟨_, _, Tryz.type34, Tryz.underlying34, rfl, rfl, rfl, rfl⟩
  · cases e; exact ⟨_, _, Tryz.type35, Tryz.underlying35, rfl, rfl, rfl, rfl⟩
  · cases e; exact ⟨_, _, Tryz.type37, Tryz.underlying37, rfl, rfl, rfl, rfl⟩
  · cases e; exact ⟨_, _, Tryz.type38, Tryz.underlying38, rfl, rfl, rfl, rfl⟩
  · cases e; exact ⟨_, _, Tryz.type39, Tryz.underlying39, rfl, rfl, rfl, rfl⟩
  · cases e; exact ⟨_, _, Tryz.type41, Tryz.underlying41, rfl, rfl, rfl, rfl⟩
  · cases e; exact ⟨_, _, Tryz.type42, Tryz.underlying42, rfl, rfl, rfl, rfl⟩
  · cases e; exact ⟨_, _, Tryz.type44, Tryz.underlying44, rfl, rfl, rfl, rfl⟩
  · cases e; exact ⟨_, _, Tryz.type46, Tryz.underlying46, rfl, rfl, rfl, rfl⟩
  · cases e; exact ⟨_, _, Tryz.type48, Tryz.underlying48, rfl, rfl, rfl, rfl⟩
  · cases e; exact ⟨_, _, Tryz.type49, Tryz.underlying49, rfl, rfl, rfl, rfl⟩
  · cases e; exact ⟨_, _, Tryz.type50, Tryz.underlying50, rfl, rfl, rfl, rfl⟩
  · cases e; exact ⟨_, _, Tryz.type52, Tryz.underlying52, rfl, rfl, rfl, rfl⟩
  · cases e; exact ⟨_, _, Tryz.type53, Tryz.underlying53, rfl, rfl, rfl, rfl⟩
  · cases e; exact ⟨_, _, Tryz.type54, Tryz.underlying54, rfl, rfl, rfl, rfl⟩
  · cases e; exact ⟨_, _, Tryz.type55, Tryz.underlying55, rfl, rfl, rfl, rfl⟩
  · cases e; exact ⟨_, _, Tryz.type56, Tryz.underlying56, rfl, rfl, rfl, rfl⟩
  · cases e; exact ⟨_, _, Tryz.type57, Tryz.underlying57, rfl, rfl, rfl, rfl⟩
  · cases e; exact ⟨_, _, Tryz.type58, Tryz.underlying58, rfl, rfl, rfl, rfl⟩
  · cases e; exact ⟨_, _, Tryz.type59, Tryz.underlying59, rfl, rfl, rfl, rfl⟩
  · cases e; exact ⟨_, _, Tryz.type60, Tryz.underlying60, rfl, rfl, rfl, rfl⟩
  · cases e; exact ⟨_, _, Tryz.type61, Tryz.underlying61, rfl, rfl, rfl, rfl⟩
  · cases e; exact ⟨_, _, Tryz.type62, Tryz.underlying62, rfl, rfl, rfl, rfl⟩
  · cases e; exact ⟨_, _, Tryz.type63, Tryz.underlying63, rfl, rfl, rfl, rfl⟩
  · cases e; exact ⟨_, _, Tryz.type64, Tryz.underlying64, rfl, rfl, rfl, rfl⟩
  · cases e; exact ⟨_, _, Tryz.type65, Tryz.underlying65, rfl, rfl, rfl, rfl⟩
  · cases e; exact ⟨_, _, Tryz.type67, Tryz.underlying67, rfl, rfl, rfl, rfl⟩
  · cases e; exact ⟨_, _, Tryz.type68, Tryz.underlying68, rfl, rfl, rfl, rfl⟩
  · cases e; exact ⟨_, _, Tryz.type69, Tryz.underlying69, rfl, rfl, rfl, rfl⟩
  · cases e; exact ⟨_, _, Tryz.type70, Tryz.underlying70, rfl, rfl, rfl, rfl⟩
  · cases e; exact ⟨_, _, Tryz.type71, Tryz.underlying71, rfl, rfl, rfl, rfl⟩
  · cases e; exact ⟨_, _, Tryz.type72, Tryz.underlying72, rfl, rfl, rfl, rfl⟩
  · cases e; exact ⟨_, _, Tryz.type73, Tryz.underlying73, rfl, rfl, rfl, rfl⟩
  · cases e; exact ⟨_, _, Tryz.type74, Tryz.underlying74, rfl, rfl, rfl, rfl⟩
  · cases e; exact ⟨_, _, Tryz.type75, Tryz.underlying75, rfl, rfl, rfl, rfl⟩
  · cases e; exact ⟨_, _, Tryz.type76, Tryz.underlying76, rfl, rfl, rfl, rfl⟩
  · cases e; exact ⟨_, _, Tryz.type78, Tryz.underlying78, rfl, rfl, rfl, rfl⟩
  · cases e; exact ⟨_, _, Tryz.type80, Tryz.underlying80, rfl, rfl, rfl, rfl⟩
  · cases e; exact ⟨_, _, Tryz.type82, Tryz.underlying82, rfl, rfl, rfl, rfl⟩
  · cases e; exact ⟨_, _, Tryz.type83, Tryz.underlying83, rfl, rfl, rfl, rfl⟩
  · cases e; exact ⟨_, _, Tryz.type84, Tryz.underlying84, rfl, rfl, rfl, rfl⟩
  · cases e; exact ⟨_, _, Tryz.type85, Tryz.underlying85, rfl, rfl, rfl, rfl⟩
  · cases e; exact ⟨_, _, Tryz.type86, Tryz.underlying86, rfl, rfl, rfl, rfl⟩
  · cases e; exact ⟨_, _, Tryz.type87, Tryz.underlying87, rfl, rfl, rfl, rfl⟩
  · cases e; exact ⟨_, _, Tryz.type88, Tryz.underlying88, rfl, rfl, rfl, rfl⟩
  · cases e; exact ⟨_, _, Tryz.type89, Tryz.underlying89, rfl, rfl, rfl, rfl⟩
  · cases e; exact ⟨_, _, Tryz.type90, Tryz.underlying90, rfl, rfl, rfl, rfl⟩
  · cases e; exact ⟨_, _, Tryz.type91, Tryz.underlying91, rfl, rfl, rfl, rfl⟩
  · cases e; exact ⟨_, _, Tryz.type92, Tryz.underlying92, rfl, rfl, rfl, rfl⟩
  · cases e; exact ⟨_, _, Tryz.type93, Tryz.underlying93, rfl, rfl, rfl, rfl⟩
  · cases e; exact ⟨_, _, Tryz.type94, Tryz.underlying94, rfl, rfl, rfl, rfl⟩
  · cases e; exact ⟨_, _, Tryz.type95, Tryz.underlying95, rfl, rfl, rfl, rfl⟩
  · cases e; exact ⟨_, _, Tryz.type96, Tryz.underlying96, rfl, rfl, rfl, rfl⟩
  · cases e; exact ⟨_, _, Tryz.type97, Tryz.underlying97, rfl, rfl, rfl, rfl⟩
  · cases e; exact ⟨_, _, Tryz.type98, Tryz.underlying98, rfl, rfl, rfl, rfl⟩
  · cases e; exact ⟨_, _, Tryz.type99, Tryz.underlying99, rfl, rfl, rfl, rfl⟩
  · cases e; exact ⟨_, _, Tryz.type101, Tryz.underlying101, rfl, rfl, rfl, rfl⟩
  · cases e; exact ⟨_, _, Tryz.type102, Tryz.underlying102, rfl, rfl, rfl, rfl⟩
  · cases e; exact ⟨_, _, Tryz.type104, Tryz.underlying104, rfl, rfl, rfl, rfl⟩
  · cases e; exact ⟨_, _, Tryz.type105, Tryz.underlying105, rfl, rfl, rfl, rfl⟩
  · cases e; exact ⟨_, _, Tryz.type106, Tryz.underlying106, rfl, rfl, rfl, rfl⟩
  · cases e; exact ⟨_, _, Tryz.type107, Tryz.underlying107, rfl, rfl, rfl, rfl⟩
  · cases e; exact ⟨_, _, Tryz.type108, Tryz.underlying108, rfl, rfl, rfl, rfl⟩
  · cases e; exact ⟨_, _, Tryz.type109, Tryz.underlying109, rfl, rfl, rfl, rfl⟩
  · cases e; exact ⟨_, _, Tryz.type110, Tryz.underlying110, rfl, rfl, rfl, rfl⟩
  · cases e; exact ⟨_, _, Tryz.type111, Tryz.underlying111, rfl, rfl, rfl, rfl⟩
  · cases e; exact ⟨_, _, Tryz.type112, Tryz.underlying112, rfl, rfl, rfl, rfl⟩
  · cases e; exact ⟨_, _, Tryz.type113, Tryz.underlying113, rfl, rfl, rfl, rfl⟩
  · cases e; exact ⟨_, _, Tryz.type114, Tryz.underlying114, rfl, rfl, rfl, rfl⟩
  · cases e; exact ⟨_, _, Tryz.type115, Tryz.underlying115, rfl, rfl, rfl, rfl⟩
  · cases e; exact ⟨_, _, Tryz.type116, Tryz.underlying116, rfl, rfl, rfl, rfl⟩
  · cases e; exact ⟨_, _, Tryz.type117, Tryz.underlying117, rfl, rfl, rfl, rfl⟩
  · cases e; exact ⟨_, _, Tryz.type118, Tryz.underlying118, rfl, rfl, rfl, rfl⟩
  · cases e; exact ⟨_, _, Tryz.type119, Tryz.underlying119, rfl, rfl, rfl, rfl⟩
  · cases e; exact ⟨_, _, Tryz.type120, Tryz.underlying120, rfl, rfl, rfl, rfl⟩
  · cases e; exact ⟨_, _, Tryz.type121, Tryz.underlying121, rfl, rfl, rfl, rfl⟩
  · cases e; exact ⟨_, _, Tryz.type122, Tryz.underlying122, rfl, rfl, rfl, rfl⟩
  · cases e; exact ⟨_, _, Tryz.type123, Tryz.underlying123, rfl, rfl, rfl, rfl⟩
  · cases e; exact ⟨_, _, Tryz.type124, Tryz.underlying124, rfl, rfl, rfl, rfl⟩
  · cases e; exact ⟨_, _, Tryz.type125, Tryz.underlying125, rfl, rfl, rfl, rfl⟩
  · cases e; exact ⟨_, _, Tryz.type126, Tryz.underlying126, rfl, rfl, rfl, rfl⟩
  · cases e; exact ⟨_, _, Tryz.type127, Tryz.underlying127, rfl, rfl, rfl, rfl⟩
  · cases e; exact ⟨_, _, Tryz.type128, Tryz.underlying128, rfl, rfl, rfl, rfl⟩
  · cases e; exact ⟨_, _, Tryz.type129, Tryz.underlying129, rfl, rfl, rfl, rfl⟩
  · cases e; exact ⟨_, _, Tryz.type130, Tryz.underlying130, rfl, rfl, rfl, rfl⟩
  · cases e; exact ⟨_, _, Tryz.type131, Tryz.underlying131, rfl, rfl, rfl, rfl⟩
  · cases e; exact ⟨_, _, Tryz.type132, Tryz.underlying132, rfl, rfl, rfl, rfl⟩
  · cases e; exact ⟨_, _, Tryz.type133, Tryz.underlying133, rfl, rfl, rfl, rfl⟩
  · cases e; exact ⟨_, _, Tryz.type135, Tryz.underlying135, rfl, rfl, rfl, rfl⟩
  · cases e; exact ⟨_, _, Tryz.type136, Tryz.underlying136, rfl, rfl, rfl, rfl⟩
  · cases e; exact ⟨_, _, Tryz.type137, Tryz.underlying137, rfl, rfl, rfl, rfl⟩
  · cases e; exact ⟨_, _, Tryz.type138, Tryz.underlying138, rfl, rfl, rfl, rfl⟩
  · cases e; exact ⟨_, _, Tryz.type139, Tryz.underlying139, rfl, rfl, rfl, rfl⟩
  · cases e; exact ⟨_, _, Tryz.type140, Tryz.underlying140, rfl, rfl, rfl, rfl⟩
  · cases e; exact ⟨_, _, Tryz.type141, Tryz.underlying141, rfl, rfl, rfl, rfl⟩
  · cases e; exact ⟨_, _, Tryz.type142, Tryz.underlying142, rfl, rfl, rfl, rfl⟩
  · cases e; exact ⟨_, _, Tryz.type143, Tryz.underlying143, rfl, rfl, rfl, rfl⟩
  · cases e; exact ⟨_, _, Tryz.type144, Tryz.underlying144, rfl, rfl, rfl, rfl⟩
  · cases e; exact ⟨_, _, Tryz.type145, Tryz.underlying145, rfl, rfl, rfl, rfl⟩
  · cases e; exact ⟨_, _, Tryz.type146, Tryz.underlying146, rfl, rfl, rfl, rfl⟩
  · cases e; exact ⟨_, _, Tryz.type147, Tryz.underlying147, rfl, rfl, rfl, rfl⟩
  · cases e; exact ⟨_, _, Tryz.type148, Tryz.underlying148, rfl, rfl, rfl, rfl⟩
  · cases e; exact ⟨_, _, Tryz.type149, Tryz.underlying149, rfl, rfl, rfl, rfl⟩
  · cases e; exact ⟨_, _, Tryz.type150, Tryz.underlying150, rfl, rfl, rfl, rfl⟩
  · cases e; exact ⟨_, _, Tryz.type151, Tryz.underlying151, rfl, rfl, rfl, rfl⟩
  · cases e; exact ⟨_, _, Tryz.type152, Tryz.underlying152, rfl, rfl, rfl, rfl⟩
  · cases e; exact ⟨_, _, Tryz.type153, Tryz.underlying153, rfl, rfl, rfl, rfl⟩
  · cases e; exact ⟨_, _, Tryz.type155, Tryz.underlying155, rfl, rfl, rfl, rfl⟩
  · cases e; exact ⟨_, _, Tryz.type156, Tryz.underlying156, rfl, rfl, rfl, rfl⟩
  · cases e; exact ⟨_, _, Tryz.type157, Tryz.underlying157, rfl, rfl, rfl, rfl⟩
  · cases e; exact ⟨_, _, Tryz.type158, Tryz.underlying158, rfl, rfl, rfl, rfl⟩
  · cases e; exact ⟨_, _, Tryz.type160, Tryz.underlying160, rfl, rfl, rfl, rfl⟩
  · cases e; exact ⟨_, _, Tryz.type161, Tryz.underlying161, rfl, rfl, rfl, rfl⟩
  · cases e; exact ⟨_, _, Tryz.type163, Tryz.underlying163, rfl, rfl, rfl, rfl⟩
  · cases e; exact ⟨_, _, Tryz.type164, Tryz.underlying164, rfl, rfl, rfl, rfl⟩
  · cases e; exact ⟨_, _, Tryz.type165, Tryz.underlying165, rfl, rfl, rfl, rfl⟩
  · cases e; exact ⟨_, _, Tryz.type166, Tryz.underlying166, rfl, rfl, rfl, rfl⟩
  · cases e; exact ⟨_, _, Tryz.type167, Tryz.underlying167, rfl, rfl, rfl, rfl⟩
  · cases e; exact ⟨_, _, Tryz.type168, Tryz.underlying168, rfl, rfl, rfl, rfl⟩
  · cases e; exact ⟨_, _, Tryz.type169, Tryz.underlying169, rfl, rfl, rfl, rfl⟩
  · cases e; exact ⟨_, _, Tryz.type170, Tryz.underlying170, rfl, rfl, rfl, rfl⟩
  · cases e; exact ⟨_, _, Tryz.type171, Tryz.underlying171, rfl, rfl, rfl, rfl⟩
  · cases e; exact ⟨_, _, Tryz.type172, Tryz.underlying172, rfl, rfl, rfl, rfl⟩
  · cases e; exact ⟨_, _, Tryz.type173, Tryz.underlying173, rfl, rfl, rfl, rfl⟩
  · cases e; exact ⟨_, _, Tryz.type175, Tryz.underlying175, rfl, rfl, rfl, rfl⟩
  · cases e; exact ⟨_, _, Tryz.type176, Tryz.underlying176, rfl, rfl, rfl, rfl⟩
  · cases e; exact ⟨_, _, Tryz.type177, Tryz.underlying177, rfl, rfl, rfl, rfl⟩
  · cases e; exact ⟨_, _, Tryz.type178, Tryz.underlying178, rfl, rfl, rfl, rfl⟩
  · cases e; exact ⟨_, _, Tryz.type179, Tryz.underlying179, rfl, rfl, rfl, rfl⟩
  · cases e; exact ⟨_, _, Tryz.type180, Tryz.underlying180, rfl, rfl, rfl, rfl⟩
  · cases e; exact ⟨_, _, Tryz.type181, Tryz.underlying181, rfl, rfl, rfl, rfl⟩
  · cases e; exact ⟨_, _, Tryz.type182, Tryz.underlying182, rfl, rfl, rfl, rfl⟩
  · cases e; exact ⟨_, _, Tryz.type183, Tryz.underlying183, rfl, rfl, rfl, rfl⟩
  · cases e; exact ⟨_, _, Tryz.type184, Tryz.underlying184, rfl, rfl, rfl, rfl⟩
  · cases e; exact ⟨_, _, Tryz.type185, Tryz.underlying185, rfl, rfl, rfl, rfl⟩
  · cases e; exact ⟨_, _, Tryz.type186, Tryz.underlying186, rfl, rfl, rfl, rfl⟩
  · cases e; exact ⟨_, _, Tryz.type187, Tryz.underlying187, rfl, rfl, rfl, rfl⟩
  · cases e; exact ⟨_, _, Tryz.type188, Tryz.underlying188, rfl, rfl, rfl, rfl⟩
  · cases e; exact ⟨_, _, Tryz.type189, Tryz.underlying189, rfl, rfl, rfl, rfl⟩
  · cases e; exact ⟨_, _, Tryz.type190, Tryz.underlying190, rfl, rfl, rfl, rfl⟩
  · cases e; exact ⟨_, _, Tryz.type191, Tryz.underlying191, rfl, rfl, rfl, rfl⟩
  · cases e; exact ⟨_, _, Tryz.type192, Tryz.underlying192, rfl, rfl, rfl, rfl⟩
  · cases e; exact ⟨_, _, Tryz.type193, Tryz.underlying193, rfl, rfl, rfl, rfl⟩
  · cases e; exact ⟨_, _, Tryz.type194, Tryz.underlying194, rfl, rfl, rfl, rfl⟩
  · cases e
theorem mixed : Tryz.prog.follows .mixedOrders = true := Tryz.checked.mixed
end Go.Proofs.YtkdendaohlnlcaaGreatDoor.Av

/- How a function's text is gone through by simp: rules that look at the state alone; what comes behind is a closed word. No condition. -/
namespace Go.Proofs.YtkdendaohlnlcaaGreatDoor.Av
set_option linter.unusedVariables false
set_option linter.unusedSimpArgs false

section
variable (P : Program) (tb : Tab) (Sp : Spec) (w0 : Base) (ro : Option Nat) (mb : List Tmp)
def thenL (p : List Nat) (b : Code) (R : AEx → FS → Prop) : AEx → FS → Prop := thenR (fun s => vc P tb Sp w0 ro mb p b s R) R
def blkL (id : Nat) (R : AEx → FS → Prop) : AEx → FS → Prop := blockR id R
def blkB (same : Bool) (j : Nat) (R : AEx → FS → Prop) (s : FS) : Prop := bif same then R .normal s else R (.exit j) s
def regL (R : AEx → FS → Prop) (n : Nat) : S → Prop := fun s' => R .normal ⟨s'.tmps, n + 1, s'.H⟩
def regD (ops : Array Oper) (R : AEx → FS → Prop) (n : Nat) : List (Nat × Ev) → S → Prop := fun evs s' => evs.Pairwise (fun x y => (beforeB ops y.1).testBit x.1 = true ∨ compat x.2 y.2) ∧ R .normal ⟨s'.tmps, n + 1, s'.H⟩
def regP (R : AEx → FS → Prop) (n : Nat) : S → AV → Prop := fun s' v => R (.panic v) ⟨s'.tmps, n + 1, s'.H⟩
def regDP (ops : Array Oper) (R : AEx → FS → Prop) (n : Nat) : Nat → List (Nat × Ev) → Hp → AV → Prop := fun j evs H' v => panOk ops j evs = true ∧ evs.Pairwise (fun x y => (beforeB ops y.1).testBit x.1 = true ∨ compat x.2 y.2) ∧ R (.panic v) ⟨[], n + 1, H'⟩
def seqL (ops : Array Oper) (kp : List Nat) (l : List Oper) (i : Nat) (t : List AV) (H : Hp) (K : S → Prop) (Kp : S → AV → Prop) : Prop := vcSeq P tb Sp w0 mb ops kp Kp (l.zipIdx i) ⟨t, H⟩ K
def stepL (ops : Array Oper) (kp : List Nat) (l : List Oper) (i : Nat) (dst : Option Tmp) (t : List AV) (H : Hp) (K : S → Prop) (Kp : S → AV → Prop) : Ev → Prop := fun ev => evK ev (vcSeq P tb Sp w0 mb ops kp Kp (l.zipIdx i) ⟨putA t dst ev.out, ev.post H⟩ K) fun H' v => Kp ⟨t, H'⟩ v
def drawL (ops : Array Oper) (kp : List Nat) (l : List Oper) (i : Nat) (t : List AV) (H : Hp) (acc : List (Nat × Ev)) (K : List (Nat × Ev) → S → Prop) (Kp : Nat → List (Nat × Ev) → Hp → AV → Prop) : Prop := vcDraw P tb Sp w0 mb ops kp (l.zipIdx i) ⟨t, H⟩ (fun evs s => K (acc ++ evs) s) fun j evs H' v => Kp j (acc ++ evs) H' v
def dstepL (ops : Array Oper) (kp : List Nat) (l : List Oper) (i idx : Nat) (dst : Option Tmp) (t : List AV) (H : Hp) (acc : List (Nat × Ev)) (K : List (Nat × Ev) → S → Prop) (Kp : Nat → List (Nat × Ev) → Hp → AV → Prop) : Ev → Prop := fun ev => evK ev (vcDraw P tb Sp w0 mb ops kp (l.zipIdx i) ⟨putA t dst ev.out, ev.post H⟩ (fun evs s => K (acc ++ (if ev.loud then (idx, ev) :: evs else evs)) s) fun j evs H' v => Kp j (acc ++ (if ev.loud then (idx, ev) :: evs else evs)) H' v) fun H' v => Kp idx (acc ++ []) H' v
def condL (p : List Nat) (a b : Code) (s : FS) (R : AEx → FS → Prop) (v : AV) : Prop := match v with
  | .raw (.bool t) => (t = true → vc P tb Sp w0 ro mb p a s R) ∧ (t = false → vc P tb Sp w0 ro mb p b s R)
  | _ => False
def guardL (draw : Bool) (key : List Nat) (o : Oper) (t : List AV) (H : Hp) (K : Ev → Prop) (want : Bool) (inn : Prop) (v : AV) : Prop := match v with
  | .raw (.bool b) => inn ∧ ((b == want) = true → vcOp P tb Sp w0 mb draw key o t H K) ∧ ((b == want) = false → K (.val AV.undef))
  | .raw (.tuple ⟨[]⟩) => inn ∧ K (.val AV.undef)
  | _ => False
end

section
variable {P : Program} {tb : Tab} {Sp : Spec} {w0 : Base} {ro : Option Nat} {mb : List Tmp} {p kp key : List Nat} {ops : Array Oper} {t : List AV} {H : Hp} {n : Nat} {R : AEx → FS → Prop}
@[go_sem] theorem vc_skip {s : FS} : vc P tb Sp w0 ro mb p .skip s R = R .normal s := rfl
@[go_sem] theorem vc_label {l : Nat} {s : FS} : vc P tb Sp w0 ro mb p (.label l) s R = R .normal s := rfl
@[go_sem] theorem vc_exit {i : Nat} {s : FS} : vc P tb Sp w0 ro mb p (.exit i) s R = R (.exit i) s := rfl
@[go_sem] theorem vc_ret {s : FS} : vc P tb Sp w0 ro mb p .ret s R = R .ret s := rfl
@[go_sem] theorem vc_block {i : Nat} {c : Code} {s : FS} : vc P tb Sp w0 ro mb p (.block i c) s R = vc P tb Sp w0 ro mb p c s (blkL i R) := rfl
@[go_sem] theorem vc_loop {c : Code} {s : FS} : vc P tb Sp w0 ro mb p (.loop c) s R = LoopOk P w0 ro p c s R := rfl
@[go_sem] theorem vc_scope {c : Code} {s : FS} : vc P tb Sp w0 none mb p (.scope c) s R = vc P tb Sp w0 none mb p c s R := by simp [vc]
@[go_sem] theorem vc_rangeFunc {f : Operand} {ps : Array Tmp} {a b : Code} {s : FS} : vc P tb Sp w0 ro mb p (.rangeFunc f ps a b) s R = DetOk P w0 ro p (.rangeFunc f ps a b) s R := rfl
/-- A sequence, its first part known. -/
def seqV (P : Program) (tb : Tab) (Sp : Spec) (w0 : Base) (ro : Option Nat) (mb : List Tmp) (p : List Nat) (a b : Code) (s : FS) (R : AEx → FS → Prop) (st : Bool) : Prop := bif st then DetOk P w0 ro p (.seq a b) s R else vc P tb Sp w0 ro mb p a s (thenL P tb Sp w0 ro mb p b R)
@[go_sem] theorem vc_seq {a b : Code} {s : FS} : vc P tb Sp w0 ro mb p (.seq a b) s R = seqV P tb Sp w0 ro mb p a b s R (isStr a) := by
  rw [vc, seqV]
  cases isStr a <;> rfl
@[go_sem] theorem seqV_true {a b : Code} {s : FS} : seqV P tb Sp w0 ro mb p a b s R true = DetOk P w0 ro p (.seq a b) s R := rfl
@[go_sem] theorem seqV_false {a b : Code} {s : FS} : seqV P tb Sp w0 ro mb p a b s R false = vc P tb Sp w0 ro mb p a s (thenL P tb Sp w0 ro mb p b R) := rfl
@[go_sem] theorem isStr_region {i : Nat} {l : List Oper} {d : Bool} : isStr (.region i l.toArray d) = lastRange l := rfl
attribute [go_sem] lastRange isRangeO
@[go_sem] theorem isStr_seq {a b : Code} : isStr (.seq a b) = false := rfl
@[go_sem] theorem isStr_cond {c : Operand} {a b : Code} : isStr (.cond c a b) = false := rfl
@[go_sem] theorem isStr_block {i : Nat} {a : Code} : isStr (.block i a) = false := rfl
@[go_sem] theorem isStr_loop {a : Code} : isStr (.loop a) = false := rfl
@[go_sem] theorem isStr_skip : isStr .skip = false := rfl
@[go_sem] theorem isStr_label {l : Nat} : isStr (.label l) = false := rfl
@[go_sem] theorem isStr_scope {a : Code} : isStr (.scope a) = false := rfl
@[go_sem] theorem isStr_rangeFunc {f : Operand} {ps : Array Tmp} {a b : Code} : isStr (.rangeFunc f ps a b) = false := rfl
@[go_sem] theorem isStr_ret : isStr .ret = false := rfl
@[go_sem] theorem isStr_exit {i : Nat} : isStr (.exit i) = false := rfl
@[go_sem] theorem vc_cond {c : Operand} {a b : Code} : vc P tb Sp w0 ro mb p (.cond c a b) ⟨t, n, H⟩ R = condL P tb Sp w0 ro mb p a b ⟨t, n, H⟩ R (evA t c) := rfl
@[go_sem] theorem vc_plain {i : Nat} {l : List Oper} : vc P tb Sp w0 ro mb p (.region i l.toArray false) ⟨t, n, H⟩ R = seqL P tb Sp w0 mb l.toArray (n :: p) l 0 t H (regL R n) (regP R n) := rfl
@[go_sem] theorem vc_drawn {i : Nat} {l : List Oper} : vc P tb Sp w0 ro mb p (.region i l.toArray true) ⟨t, n, H⟩ R = (drawOk l.toArray = true ∧ drawL P tb Sp w0 mb l.toArray (n :: p) l 0 t H [] (regD l.toArray R n) (regDP l.toArray R n)) := rfl
@[go_sem] theorem thenL_normal {b : Code} {s : FS} : thenL P tb Sp w0 ro mb p b R .normal s = vc P tb Sp w0 ro mb p b s R := rfl
@[go_sem] theorem thenL_exit {b : Code} {j : Nat} {s : FS} : thenL P tb Sp w0 ro mb p b R (.exit j) s = R (.exit j) s := rfl
@[go_sem] theorem thenL_ret {b : Code} {s : FS} : thenL P tb Sp w0 ro mb p b R .ret s = R .ret s := rfl
@[go_sem] theorem blkL_normal {i : Nat} {s : FS} : blkL i R .normal s = R .normal s := rfl
@[go_sem] theorem blkL_ret {i : Nat} {s : FS} : blkL i R .ret s = R .ret s := rfl
@[go_sem] theorem blkL_exit {i j : Nat} {s : FS} : blkL i R (.exit j) s = blkB (j == i) j R s := by
  unfold blkL blockR blkB
  by_cases h : j = i <;> simp [h]
@[go_sem] theorem blkB_true {j : Nat} {s : FS} : blkB true j R s = R .normal s := rfl
@[go_sem] theorem blkB_false {j : Nat} {s : FS} : blkB false j R s = R (.exit j) s := rfl
@[go_sem] theorem regL_at : regL R n ⟨t, H⟩ = R .normal ⟨t, n + 1, H⟩ := rfl
@[go_sem] theorem regD_at {evs : List (Nat × Ev)} : regD ops R n evs ⟨t, H⟩ = (evs.Pairwise (fun x y => (beforeB ops y.1).testBit x.1 = true ∨ compat x.2 y.2) ∧ R .normal ⟨t, n + 1, H⟩) := rfl
@[go_sem] theorem seqL_nil {i : Nat} {K : S → Prop} {Kp : S → AV → Prop} : seqL P tb Sp w0 mb ops kp [] i t H K Kp = K ⟨t, H⟩ := rfl
@[go_sem] theorem seqL_cons {o : Oper} {l : List Oper} {i : Nat} {K : S → Prop} {Kp : S → AV → Prop} : seqL P tb Sp w0 mb ops kp (o :: l) i t H K Kp = vcG P tb Sp w0 mb false ops (i :: kp) o ⟨t, H⟩ (stepL P tb Sp w0 mb ops kp l (i + 1) o.dst t H K Kp) := rfl
@[go_sem] theorem stepL_val {l : List Oper} {i : Nat} {dst : Option Tmp} {K : S → Prop} {Kp : S → AV → Prop} {v : AV} : stepL P tb Sp w0 mb ops kp l i dst t H K Kp (.val v) = seqL P tb Sp w0 mb ops kp l i (putA t dst v) H K Kp := rfl
@[go_sem] theorem stepL_rd {l : List Oper} {i : Nat} {dst : Option Tmp} {K : S → Prop} {Kp : S → AV → Prop} {v : AV} {d : Id} {c : List AV} : stepL P tb Sp w0 mb ops kp l i dst t H K Kp (.rd d c v) = seqL P tb Sp w0 mb ops kp l i (putA t dst v) H K Kp := rfl
@[go_sem] theorem stepL_eff {l : List Oper} {i : Nat} {dst : Option Tmp} {K : S → Prop} {Kp : S → AV → Prop} {v : AV} {H1 H2 : Hp} : stepL P tb Sp w0 mb ops kp l i dst t H K Kp (.eff H1 H2 v) = seqL P tb Sp w0 mb ops kp l i (putA t dst v) H2 K Kp := rfl
@[go_sem] theorem stepL_pan {l : List Oper} {i : Nat} {dst : Option Tmp} {K : S → Prop} {Kp : S → AV → Prop} {v : AV} {H1 H2 : Hp} : stepL P tb Sp w0 mb ops kp l i dst t H K Kp (.pan H1 H2 v) = Kp ⟨t, H2⟩ v := rfl
@[go_sem] theorem regP_at {v : AV} : regP R n ⟨t, H⟩ v = R (.panic v) ⟨t, n + 1, H⟩ := rfl
@[go_sem] theorem regDP_at {j : Nat} {evs : List (Nat × Ev)} {v : AV} : regDP ops R n j evs H v = (panOk ops j evs = true ∧ evs.Pairwise (fun x y => (beforeB ops y.1).testBit x.1 = true ∨ compat x.2 y.2) ∧ R (.panic v) ⟨[], n + 1, H⟩) := rfl
@[go_sem] theorem dstepL_pan {l : List Oper} {i idx : Nat} {dst : Option Tmp} {acc : List (Nat × Ev)} {K : List (Nat × Ev) → S → Prop} {Kp : Nat → List (Nat × Ev) → Hp → AV → Prop} {v : AV} {H1 H2 : Hp} : dstepL P tb Sp w0 mb ops kp l i idx dst t H acc K Kp (.pan H1 H2 v) = Kp idx acc H2 v := by simp [dstepL, evK]
@[go_sem] theorem thenL_panic {b : Code} {v : AV} {s : FS} : thenL P tb Sp w0 ro mb p b R (.panic v) s = R (.panic v) s := rfl
@[go_sem] theorem blkL_panic {i : Nat} {v : AV} {s : FS} : blkL i R (.panic v) s = R (.panic v) s := rfl
@[go_sem] theorem drawL_nil {i : Nat} {acc : List (Nat × Ev)} {K : List (Nat × Ev) → S → Prop} {Kp : Nat → List (Nat × Ev) → Hp → AV → Prop} : drawL P tb Sp w0 mb ops kp [] i t H acc K Kp = K acc ⟨t, H⟩ := by simp [drawL, vcDraw]
@[go_sem] theorem drawL_cons {o : Oper} {l : List Oper} {i : Nat} {acc : List (Nat × Ev)} {K : List (Nat × Ev) → S → Prop} {Kp : Nat → List (Nat × Ev) → Hp → AV → Prop} : drawL P tb Sp w0 mb ops kp (o :: l) i t H acc K Kp = vcG P tb Sp w0 mb true ops (i :: kp) o ⟨t, H⟩ (dstepL P tb Sp w0 mb ops kp l (i + 1) i o.dst t H acc K Kp) := rfl
@[go_sem] theorem dstepL_val {l : List Oper} {i idx : Nat} {dst : Option Tmp} {acc : List (Nat × Ev)} {K : List (Nat × Ev) → S → Prop} {Kp : Nat → List (Nat × Ev) → Hp → AV → Prop} {v : AV} : dstepL P tb Sp w0 mb ops kp l i idx dst t H acc K Kp (.val v) = drawL P tb Sp w0 mb ops kp l i (putA t dst v) H acc K Kp := rfl
@[go_sem] theorem dstepL_rd {l : List Oper} {i idx : Nat} {dst : Option Tmp} {acc : List (Nat × Ev)} {K : List (Nat × Ev) → S → Prop} {Kp : Nat → List (Nat × Ev) → Hp → AV → Prop} {v : AV} {d : Id} {c : List AV} : dstepL P tb Sp w0 mb ops kp l i idx dst t H acc K Kp (.rd d c v) = drawL P tb Sp w0 mb ops kp l i (putA t dst v) H (acc ++ [(idx, .rd d c v)]) K Kp := by simp [drawL, dstepL, Ev.loud, Ev.out, Ev.post, evK]
@[go_sem] theorem dstepL_eff {l : List Oper} {i idx : Nat} {dst : Option Tmp} {acc : List (Nat × Ev)} {K : List (Nat × Ev) → S → Prop} {Kp : Nat → List (Nat × Ev) → Hp → AV → Prop} {v : AV} {H1 H2 : Hp} : dstepL P tb Sp w0 mb ops kp l i idx dst t H acc K Kp (.eff H1 H2 v) = drawL P tb Sp w0 mb ops kp l i (putA t dst v) H2 (acc ++ [(idx, .eff H1 H2 v)]) K Kp := by simp [drawL, dstepL, Ev.loud, Ev.out, Ev.post, evK]
@[go_sem] theorem condL_bool {a b : Code} {s : FS} {v : Bool} : condL P tb Sp w0 ro mb p a b s R (.raw (.bool v)) = ((v = true → vc P tb Sp w0 ro mb p a s R) ∧ (v = false → vc P tb Sp w0 ro mb p b s R)) := rfl
@[go_sem high] theorem condL_true {a b : Code} {s : FS} : condL P tb Sp w0 ro mb p a b s R (.raw (.bool true)) = vc P tb Sp w0 ro mb p a s R := by simp [condL]
@[go_sem high] theorem condL_false {a b : Code} {s : FS} : condL P tb Sp w0 ro mb p a b s R (.raw (.bool false)) = vc P tb Sp w0 ro mb p b s R := by simp [condL]
end

/-- What an answer with a condition asks. -/
def optK (e : Option (Prop × AV)) (K : Ev → Prop) : Prop := match e with
  | some (φ, v) => φ ∧ K (.val v)
  | none => False
@[go_sem] theorem optK_some {φ : Prop} {v : AV} {K : Ev → Prop} : optK (some (φ, v)) K = (φ ∧ K (.val v)) := rfl

section
variable {P : Program} {tb : Tab} {Sp : Spec} {w0 : Base} {ro : Option Nat} {mb : List Tmp} {p kp key : List Nat} {ops : Array Oper} {draw : Bool} {dst : Option Tmp} {ty : TypeId} {pos : String} {after : Array Edge} {g : Option (Nat × Bool)} {t : List AV} {H : Hp} {K : Ev → Prop}
@[go_sem] theorem vcG_none {op : Op} : vcG P tb Sp w0 mb draw ops key ⟨dst, op, ty, pos, after, none⟩ ⟨t, H⟩ K = vcOp P tb Sp w0 mb draw key ⟨dst, op, ty, pos, after, none⟩ t H K := rfl
/-- The slot that an operation's answer goes to. -/
def slotOf : List Oper → Nat → Tmp
  | [], _ => 0
  | o :: _, 0 => o.dst.getD 0
  | _ :: os, n + 1 => slotOf os n
def hasSlot : List Oper → Nat → Bool
  | [], _ => false
  | o :: _, 0 => o.dst.isSome
  | _ :: os, n + 1 => hasSlot os n
theorem slotOf_eq : ∀ (l : List Oper) (j : Nat), hasSlot l j = true → (l.toArray[j]?).bind (·.dst) = some (slotOf l j)
  | [], j, h => by simp [hasSlot] at h
  | o :: l, 0, h => by
    simp only [hasSlot, Option.isSome_iff_exists] at h
    obtain ⟨d, h⟩ := h
    simp [slotOf, h]
  | o :: l, j + 1, h => by simpa [slotOf] using slotOf_eq l j h
theorem noSlot_eq : ∀ (l : List Oper) (j : Nat), hasSlot l j = false → (l.toArray[j]?).bind (·.dst) = none
  | [], j, h => by simp
  | o :: l, 0, h => by simpa [hasSlot] using h
  | o :: l, j + 1, h => by simpa using noSlot_eq l j h
@[go_sem] theorem vcG_some {l : List Oper} {op : Op} {j : Nat} {want : Bool} : vcG P tb Sp w0 mb draw l.toArray key ⟨dst, op, ty, pos, after, some (j, want)⟩ ⟨t, H⟩ K = (hasSlot l j = true ∧ guardL P tb Sp w0 mb draw key ⟨dst, op, ty, pos, after, none⟩ t H K want (slotOf l j < t.length) (t.getD (slotOf l j) AV.undef)) := by
  cases hj : hasSlot l j with
  | true =>
    simp only [vcG, slotOf_eq l j hj, true_and]
    rfl
  | false =>
    simp only [vcG, noSlot_eq l j hj]
    simp
@[go_sem] theorem guardL_true {o : Oper} {inn : Prop} {b : Bool} : guardL P tb Sp w0 mb draw key o t H K true inn (.raw (.bool b)) = (inn ∧ (b = true → vcOp P tb Sp w0 mb draw key o t H K) ∧ (b = false → K (.val AV.undef))) := by simp [guardL]
@[go_sem] theorem guardL_false {o : Oper} {inn : Prop} {b : Bool} : guardL P tb Sp w0 mb draw key o t H K false inn (.raw (.bool b)) = (inn ∧ (b = false → vcOp P tb Sp w0 mb draw key o t H K) ∧ (b = true → K (.val AV.undef))) := by simp [guardL]
@[go_sem high] theorem guardL_undef {o : Oper} {want : Bool} {inn : Prop} : guardL P tb Sp w0 mb draw key o t H K want inn (.raw undef) = (inn ∧ K (.val AV.undef)) := rfl
@[go_sem high] theorem guardL_undef' {o : Oper} {want : Bool} {inn : Prop} : guardL P tb Sp w0 mb draw key o t H K want inn (.raw (.tuple #[])) = (inn ∧ K (.val AV.undef)) := rfl
@[go_sem high] theorem guardL_tt {o : Oper} {inn : Prop} : guardL P tb Sp w0 mb draw key o t H K true inn (.raw (.bool true)) = (inn ∧ vcOp P tb Sp w0 mb draw key o t H K) := by simp [guardL]
@[go_sem high] theorem guardL_tf {o : Oper} {inn : Prop} : guardL P tb Sp w0 mb draw key o t H K true inn (.raw (.bool false)) = (inn ∧ K (.val AV.undef)) := by simp [guardL]
@[go_sem high] theorem guardL_ft {o : Oper} {inn : Prop} : guardL P tb Sp w0 mb draw key o t H K false inn (.raw (.bool true)) = (inn ∧ K (.val AV.undef)) := by simp [guardL]
@[go_sem high] theorem guardL_ff {o : Oper} {inn : Prop} : guardL P tb Sp w0 mb draw key o t H K false inn (.raw (.bool false)) = (inn ∧ vcOp P tb Sp w0 mb draw key o t H K) := by simp [guardL]
attribute [go_sem] slotOf hasSlot
@[go_sem] theorem vcOp_move {x : Operand} : vcOp P tb Sp w0 mb draw key ⟨dst, .move x, ty, pos, after, g⟩ t H K = K (.val (evA t x)) := by simp [vcOp, opN]
@[go_sem] theorem vcOp_assign {x : Operand} : vcOp P tb Sp w0 mb draw key ⟨dst, .assign x, ty, pos, after, g⟩ t H K = K (.val (evA t x)) := by simp [vcOp, opN]
def pickA (c a b : AV) : Option (Prop × AV) := match c with
  | .raw (.bool t) => some (True, bif t then a else b)
  | _ => none
@[go_sem] theorem vcOp_pick {c a b : Operand} : vcOp P tb Sp w0 mb draw key ⟨dst, .pick c a b, ty, pos, after, g⟩ t H K = optK (pickA (evA t c) (evA t a) (evA t b)) K := rfl
@[go_sem] theorem vcOp_makeFunc {fn : Fn} {a b : List Operand} : vcOp P tb Sp w0 mb draw key ⟨dst, .makeFunc fn a.toArray b.toArray, ty, pos, after, g⟩ t H K = K (.val (.clo fn (a.map (evA t)) (b.map (evA t)))) := by simp [vcOp, opN]
def mkIfaceA (tb : Tab) (ty : TypeId) (v : AV) : Option (Prop × AV) := match tb ty with
  | some ⟨.iface _, _, _, _⟩ => none
  | some _ => some (True, .iface ty v)
  | none => none
@[go_sem] theorem vcOp_makeInterface {u : TypeId} {x : Operand} : vcOp P tb Sp w0 mb draw key ⟨dst, .makeInterface u x, ty, pos, after, g⟩ t H K = optK (mkIfaceA tb u (evA t x)) K := rfl
@[go_sem] theorem vcOp_extract {x : Operand} {i : Nat} : vcOp P tb Sp w0 mb draw key ⟨dst, .extract x i, ty, pos, after, g⟩ t H K = optK (extractA i (evA t x)) K := rfl
@[go_sem] theorem vcOp_field {u : TypeId} {x : Operand} {f : Nat} : vcOp P tb Sp w0 mb draw key ⟨dst, .field u x f, ty, pos, after, g⟩ t H K = optK (fieldA tb u f (evA t x)) K := rfl
@[go_sem] theorem vcOp_fieldAddr {u : TypeId} {x : Operand} {f : Nat} : vcOp P tb Sp w0 mb draw key ⟨dst, .fieldAddr u x f, ty, pos, after, g⟩ t H K = optK (fieldAddrA tb u f (evA t x)) K := rfl
@[go_sem] theorem vcOp_indexAddr {u : TypeId} {x i : Operand} : vcOp P tb Sp w0 mb draw key ⟨dst, .indexAddr u x i, ty, pos, after, g⟩ t H K = optK (indexAddrA tb u (evA t x) (evA t i)) K := rfl
@[go_sem] theorem vcOp_index {u : TypeId} {x i : Operand} : vcOp P tb Sp w0 mb draw key ⟨dst, .index u x i, ty, pos, after, g⟩ t H K = optK (indexA tb u (evA t x) (evA t i)) K := rfl
@[go_sem] theorem vcOp_nilCheck {x : Operand} : vcOp P tb Sp w0 mb draw key ⟨dst, .nilCheck x, ty, pos, after, g⟩ t H K = optK (nilCheckA (evA t x)) K := rfl
@[go_sem] theorem vcOp_binOp {op : BinOp} {u v : TypeId} {x y : Operand} : vcOp P tb Sp w0 mb draw key ⟨dst, .binOp op u x y v, ty, pos, after, g⟩ t H K = vcBin P tb op u (isNilC y) (evA t x) (evA t y) K := rfl
@[go_sem] theorem vcBin_raw {op : BinOp} {u : TypeId} {nl : Bool} {x : Value} {y : AV} : vcBin P tb op u nl (.raw x) y K = optK (binN tb op u nl (.raw x) y) K := by cases y <;> rfl
@[go_sem] theorem vcBin_ptr {op : BinOp} {u : TypeId} {nl : Bool} {i : Id} {o : Nat} {y : AV} : vcBin P tb op u nl (.ptr i o) y K = optK (binN tb op u nl (.ptr i o) y) K := by cases y <;> rfl
@[go_sem] theorem vcBin_sptr {op : BinOp} {u : TypeId} {nl : Bool} {c : List AV} {y : AV} : vcBin P tb op u nl (.sptr c) y K = optK (binN tb op u nl (.sptr c) y) K := by cases y <;> rfl
@[go_sem] theorem vcBin_iface {op : BinOp} {u w : TypeId} {nl : Bool} {v y : AV} : vcBin P tb op u nl (.iface w v) y K = optK (binN tb op u nl (.iface w v) y) K := by cases y <;> rfl
def eqK (P : Program) (u : TypeId) (K : Ev → Prop) (neg : Bool) (a b : List AV) (ka kb : Option (List PK)) : Prop := match ka, kb with
  | some ks, some ls => ls = ks ∧ eqAsk P u ks = true ∧ K (.val (.bool (neg != eqA a b)))
  | _, _ => False
theorem eqK_intro {u : TypeId} {neg : Bool} {a b : List AV} (h : eqK P u K neg a b (kindsA a) (kindsA b)) : ∃ ks, kindsA a = some ks ∧ kindsA b = some ks ∧ eqAsk P u ks = true ∧ K (.val (.bool (neg != eqA a b))) := by
  unfold eqK at h
  split at h
  · rename_i ks ls h1 h2
    obtain ⟨rfl, h3, h4⟩ := h
    exact ⟨ls, h1, h2, h3, h4⟩
  · exact h.elim
theorem eqK_iff {u : TypeId} {neg : Bool} {a b : List AV} : (∃ ks, kindsA a = some ks ∧ kindsA b = some ks ∧ eqAsk P u ks = true ∧ K (.val (.bool (neg != eqA a b)))) ↔ eqK P u K neg a b (kindsA a) (kindsA b) :=
  ⟨fun ⟨ks, h1, h2, h3, h4⟩ => by rw [h1, h2]; exact ⟨rfl, h3, h4⟩, eqK_intro⟩
@[go_sem] theorem vcBin_eql {u : TypeId} {nl : Bool} {a b : List AV} : vcBin P tb .eql u nl (.agg a) (.agg b) K = eqK P u K false a b (kindsA a) (kindsA b) := by
  rw [← eqK_iff]
  simp only [vcBin]
  refine propext ⟨?_, fun ⟨ks, h1, h2, h3, h4⟩ => ⟨ks, false, rfl, h1, h2, h3, h4⟩⟩
  rintro ⟨ks, neg, h0, h1, h2, h3, h4⟩
  cases neg
  · exact ⟨ks, h1, h2, h3, h4⟩
  · cases h0
@[go_sem] theorem vcBin_neq {u : TypeId} {nl : Bool} {a b : List AV} : vcBin P tb .neq u nl (.agg a) (.agg b) K = eqK P u K true a b (kindsA a) (kindsA b) := by
  rw [← eqK_iff]
  simp only [vcBin]
  refine propext ⟨?_, fun ⟨ks, h1, h2, h3, h4⟩ => ⟨ks, true, rfl, h1, h2, h3, h4⟩⟩
  rintro ⟨ks, neg, h0, h1, h2, h3, h4⟩
  cases neg
  · cases h0
  · exact ⟨ks, h1, h2, h3, h4⟩
@[go_sem] theorem eqK_some {u : TypeId} {neg : Bool} {a b : List AV} {ks ls : List PK} : eqK P u K neg a b (some ks) (some ls) = (ls = ks ∧ eqAsk P u ks = true ∧ K (.val (.bool (neg != eqA a b)))) := rfl
@[go_sem] theorem vcOp_unOp {op : UnOp} {u : TypeId} {x : Operand} : vcOp P tb Sp w0 mb draw key ⟨dst, .unOp op u x, ty, pos, after, g⟩ t H K = optK (unA op (evA t x)) K := rfl
/-- A pointer that is turned into another kind of pointer. -/
def ptrK (e : Option Prop) (id : Id) (off : Nat) (K : Ev → Prop) : Prop := match e with
  | some φ => φ ∧ K (.val (.ptr id off))
  | none => False
@[go_sem] theorem ptrK_some {φ : Prop} {id : Id} {off : Nat} : ptrK (some φ) id off K = (φ ∧ K (.val (.ptr id off))) := rfl
def convK (P : Program) (tb : Tab) (u v : TypeId) (K : Ev → Prop) (x : AV) : Prop := match x with
  | .ptr id off => ptrK (convP P tb u v id off) id off K
  | x => optK (convA tb u v x) K
@[go_sem] theorem vcOp_convert {u v : TypeId} {x : Operand} : vcOp P tb Sp w0 mb draw key ⟨dst, .convert u v x, ty, pos, after, g⟩ t H K = convK P tb u v K (evA t x) := by
  simp only [vcOp, convK]
  generalize evA t x = y
  cases y <;> rfl
@[go_sem] theorem convK_raw {u v : TypeId} {x : Value} : convK P tb u v K (.raw x) = optK (convA tb u v (.raw x)) K := rfl
@[go_sem] theorem convK_ptr {u v : TypeId} {id : Id} {off : Nat} : convK P tb u v K (.ptr id off) = ptrK (convP P tb u v id off) id off K := rfl
def dataK (H : Hp) (K : Ev → Prop) (x : AV) (ti : Option TI) : Prop := match x, ti with
  | .list tk xs, some ⟨.pointer _, _, _, _⟩ => dataOk H tk xs ∧ K (.eff H H (.rowp tk xs))
  | _, _ => False
@[go_sem] theorem vcOp_sliceData {x : Operand} {us : Array TypeId} : vcOp P tb Sp w0 mb draw key ⟨dst, .call ⟨.builtin .unsafeSliceData, #[x], us⟩, ty, pos, after, g⟩ t H K = dataK H K (evA t x) (tb ty) := rfl
@[go_sem] theorem dataK_list {tk : Tok} {xs : List (List AV)} {e : TypeId} {a b : Nat} {z : Value} : dataK H K (.list tk xs) (some ⟨.pointer e, a, b, z⟩) = (dataOk H tk xs ∧ K (.eff H H (.rowp tk xs))) := rfl
def strK (P : Program) (H : Hp) (K : Ev → Prop) (x y : AV) (ti : Option TI) : Prop := match ti with
  | some ⟨.pointer e, _, _, _⟩ => match x with
    | .rowp tk xs => match strOf xs with
      | some s => y = .int .i64 s.size ∧ (s.size : Int) ≤ 9223372036854775807 ∧ strOk P H e tk s ∧ K (.eff H (killTok H tk) (.str s))
      | none => False
    | _ => False
  | _ => False
@[go_sem] theorem vcOp_unsafeString {x y : Operand} {u v : TypeId} : vcOp P tb Sp w0 mb draw key ⟨dst, .call ⟨.builtin .unsafeString, #[x, y], #[u, v]⟩, ty, pos, after, g⟩ t H K = strK P H K (evA t x) (evA t y) (tb u) := rfl
@[go_sem] theorem strK_bytes {tk : Tok} {s : ByteArray} {y : AV} {e : TypeId} {a b : Nat} {z : Value} : strK P H K (.rowp tk (bytesA s)) y (some ⟨.pointer e, a, b, z⟩) = (y = .int .i64 s.size ∧ (s.size : Int) ≤ 9223372036854775807 ∧ strOk P H e tk s ∧ K (.eff H (killTok H tk) (.str s))) := by
  simp only [strK, strOf_self]
@[go_sem] theorem vcOp_slice {u : TypeId} {x : Operand} {lo hi : Option Operand} : vcOp P tb Sp w0 mb draw key ⟨dst, .slice u x lo hi none, ty, pos, after, g⟩ t H K = optK (sliceA tb u (evA t x) (lo.map (evA t)) (hi.map (evA t))) K := rfl
@[go_sem] theorem vcOp_typeAssert {u v : TypeId} {x : Operand} {ok : Bool} : vcOp P tb Sp w0 mb draw key ⟨dst, .typeAssert x u v ok, ty, pos, after, g⟩ t H K = optK (assertA tb v ok (evA t x)) K := rfl
@[go_sem] theorem vcOp_build {u : TypeId} {parts : List (Nat × Operand)} : vcOp P tb Sp w0 mb draw key ⟨dst, .build u parts.toArray, ty, pos, after, g⟩ t H K = optK (buildA tb u (parts.map fun p => (p.1, evA t p.2))) K := rfl
@[go_sem] theorem vcOp_len {x : Operand} {u : TypeId} : vcOp P tb Sp w0 mb draw key ⟨dst, .call ⟨.builtin .len, #[x], #[u]⟩, ty, pos, after, g⟩ t H K = optK (lenA tb u (evA t x)) K := rfl
@[go_sem] theorem vcOp_max {xs : List Operand} {us : Array TypeId} : vcOp P tb Sp w0 mb draw key ⟨dst, .call ⟨.builtin .max, xs.toArray, us⟩, ty, pos, after, g⟩ t H K = optK (minmaxA true (xs.map (evA t))) K := rfl
@[go_sem] theorem vcOp_min {xs : List Operand} {us : Array TypeId} : vcOp P tb Sp w0 mb draw key ⟨dst, .call ⟨.builtin .min, xs.toArray, us⟩, ty, pos, after, g⟩ t H K = optK (minmaxA false (xs.map (evA t))) K := rfl
/-- Boxes: with a name, or as what does not change. -/
def boxL (var : Bool) (et : TypeId) (key : List Nat) (H : Hp) (K : Ev → Prop) (v : AV) : Prop := bif var then K (.eff H (H.upd ⟨v.cells.length, key, et⟩ (some (.cells v.cells))) (.ptr ⟨v.cells.length, key, et⟩ 0)) else K (.val (.sptr v.cells))
@[go_sem] theorem vcOp_box {u : TypeId} {x : Operand} {d : Tmp} : vcOp P tb Sp w0 mb draw key ⟨some d, .box u x, ty, pos, after, g⟩ t H K = boxL (mb.elem d) u key H K (evA t x) := by
  simp only [vcOp, boxL, List.contains_eq_any_beq, List.elem_eq_contains]
  cases mb.any fun a => d == a <;> rfl
@[go_sem] theorem boxL_true {v : AV} {et : TypeId} : boxL true et key H K v = K (.eff H (H.upd ⟨v.cells.length, key, et⟩ (some (.cells v.cells))) (.ptr ⟨v.cells.length, key, et⟩ 0)) := rfl
@[go_sem] theorem boxL_false {v : AV} {et : TypeId} : boxL false et key H K v = K (.val (.sptr v.cells)) := rfl
def litK (e : Option AV) (K : Ev → Prop) : Prop := match e with
  | some v => K (.val v)
  | none => False
@[go_sem] theorem litK_some {v : AV} : litK (some v) K = K (.val v) := rfl
@[go_sem] theorem vcOp_buildSlice {u : TypeId} {n : Nat} {parts : List (Nat × Operand)} : vcOp P tb Sp w0 mb draw key ⟨dst, .buildSlice u n parts.toArray, ty, pos, after, g⟩ t H K = litK (sliceLitA tb u n (parts.map fun p => (p.1, evA t p.2))) K := rfl
def allocK (draw : Bool) (et : TypeId) (key : List Nat) (H : Hp) (K : Ev → Prop) (e : Option TI) : Prop := match e with
  | some te => (absC te.zero).cells.length = te.size ∧ if draw then K (.val (.ptr ⟨te.size, key, et⟩ 0)) else K (.eff H (H.upd ⟨te.size, key, et⟩ (some (.cells (absC te.zero).cells))) (.ptr ⟨te.size, key, et⟩ 0))
  | none => False
@[go_sem] theorem vcOp_alloc {u : TypeId} : vcOp P tb Sp w0 mb draw key ⟨dst, .alloc u, ty, pos, after, g⟩ t H K = allocK draw u key H K (tb u) := rfl
@[go_sem] theorem allocK_true {te : TI} {et : TypeId} : allocK true et key H K (some te) = ((absC te.zero).cells.length = te.size ∧ K (.val (.ptr ⟨te.size, key, et⟩ 0))) := rfl
@[go_sem] theorem allocK_false {te : TI} {et : TypeId} : allocK false et key H K (some te) = ((absC te.zero).cells.length = te.size ∧ K (.eff H (H.upd ⟨te.size, key, et⟩ (some (.cells (absC te.zero).cells))) (.ptr ⟨te.size, key, et⟩ 0))) := rfl
def rdK (id : Id) (off : Nat) (K : Ev → Prop) (ti : Option TI) (e : Option Ent) : Prop := match ti, e with
  | some ti, some (.cells c) => (off + ti.size ≤ c.length ∧ 0 < ti.size) ∧ K (.rd id c (readA ti c off))
  | _, _ => False
@[go_sem] theorem rdK_some {id : Id} {off : Nat} {ti : TI} {c : List AV} : rdK id off K (some ti) (some (.cells c)) = ((off + ti.size ≤ c.length ∧ 0 < ti.size) ∧ K (.rd id c (readA ti c off))) := rfl
def loadK (tb : Tab) (u : TypeId) (H : Hp) (K : Ev → Prop) (x : AV) : Prop := match x with
  | .ptr id off => rdK id off K (tb u) (H id)
  | v => optK (loadA tb u v) K
@[go_sem] theorem vcOp_load {u : TypeId} {x : Operand} : vcOp P tb Sp w0 mb draw key ⟨dst, .load u x, ty, pos, after, g⟩ t H K = loadK tb u H K (evA t x) := by
  simp only [vcOp, loadK]
  generalize evA t x = v
  cases v <;> try rfl
  rename_i id off
  simp only [rdK]
  cases hu : tb u with
  | none => simp
  | some ti =>
    cases hH : H id with
    | none => simp
    | some e =>
      cases e with
      | tok => simp
      | cells c => simp
@[go_sem] theorem loadK_ptr {u : TypeId} {id : Id} {off : Nat} : loadK tb u H K (.ptr id off) = rdK id off K (tb u) (H id) := rfl
@[go_sem] theorem loadK_sptr {u : TypeId} {c : List AV} : loadK tb u H K (.sptr c) = optK (loadA tb u (.sptr c)) K := rfl
def storeL (H : Hp) (K : Ev → Prop) (id : Id) (off : Nat) (y : AV) (ti : Option TI) : Prop := match ti with
  | some ti => y.cells.length = ti.size ∧ y.cells.all oneA = true ∧
        if off = 0 ∧ ti.size = id.sz then K (.eff H (H.upd id (some (.cells y.cells))) AV.undef)
        else off + ti.size ≤ id.sz ∧ ∃ c, H id = some (.cells c) ∧ K (.eff H (H.upd id (some (.cells (layAt c off y.cells)))) AV.undef)
  | none => False
def storeK (tb : Tab) (u : TypeId) (H : Hp) (K : Ev → Prop) (x y : AV) : Prop := match x with
  | .ptr id off => storeL H K id off y (tb u)
  | _ => False
@[go_sem] theorem vcOp_store {u : TypeId} {x y : Operand} : vcOp P tb Sp w0 mb draw key ⟨dst, .store u x y, ty, pos, after, g⟩ t H K = storeK tb u H K (evA t x) (evA t y) := by
  simp only [vcOp, storeK, storeL]
  generalize evA t x = v
  cases v <;> rfl
@[go_sem] theorem storeK_ptr {u : TypeId} {id : Id} {off : Nat} {y : AV} : storeK tb u H K (.ptr id off) y = storeL H K id off y (tb u) := rfl
def storeW (whole : Bool) (H : Hp) (K : Ev → Prop) (id : Id) (off : Nat) (y : AV) (ti : TI) (e : Option Ent) : Prop := match whole, e with
  | true, _ => K (.eff H (H.upd id (some (.cells y.cells))) AV.undef)
  | false, some (.cells c) => off + ti.size ≤ id.sz ∧ K (.eff H (H.upd id (some (.cells (layAt c off y.cells)))) AV.undef)
  | _, _ => False
@[go_sem] theorem storeL_some {id : Id} {off : Nat} {y : AV} {ti : TI} : storeL H K id off y (some ti) = (y.cells.length = ti.size ∧ y.cells.all oneA = true ∧ storeW (off == 0 && ti.size == id.sz) H K id off y ti (H id)) := by
  unfold storeL storeW
  by_cases h : off = 0 ∧ ti.size = id.sz
  · simp [h]
  · have h' : (off == 0 && ti.size == id.sz) = false := by simpa using h
    simp only [h, h', if_false]
    cases hH : H id with
    | none => simp
    | some e =>
      cases e with
      | tok => simp
      | cells c => simp
@[go_sem] theorem storeW_true {id : Id} {off : Nat} {y : AV} {ti : TI} {e : Option Ent} : storeW true H K id off y ti e = K (.eff H (H.upd id (some (.cells y.cells))) AV.undef) := rfl
@[go_sem] theorem storeW_false {id : Id} {off : Nat} {y : AV} {ti : TI} {c : List AV} : storeW false H K id off y ti (some (.cells c)) = (off + ti.size ≤ id.sz ∧ K (.eff H (H.upd id (some (.cells (layAt c off y.cells)))) AV.undef)) := rfl
@[go_sem high] theorem upd_at_same {id : Id} {e : Option Ent} : (H.upd id e) id = e := Hp.upd_same _ _ _
@[go_sem] theorem upd_at {id j : Id} {e : Option Ent} : (H.upd id e) j = if j = id then e else H j := rfl
@[go_sem] theorem upd_upd {id : Id} {a b : Option Ent} : (H.upd id a).upd id b = H.upd id b := by
  funext j
  simp only [Hp.upd]
  split <;> rfl
attribute [go_sem] AV.raw.injEq Value.int.injEq Value.bool.injEq Value.string.injEq
attribute [go_sem] Id.mk.injEq List.cons.injEq reduceCtorEq List.all_cons List.all_nil oneA Bool.and_true Bool.true_and Bool.false_and Bool.and_false
def appS (te : TI) (e : TypeId) (key : List Nat) (H : Hp) (K : Ev → Prop) (tk : Tok) (xs : List (List AV)) (r : Option (Prop × List (List AV))) : Prop := match r with
  | some (ψ, ys) => ψ ∧ (∀ y ∈ xs, y.length = te.size) ∧ 0 < te.size ∧ (absC te.zero).cells.length = te.size ∧ ys.flatten.all oneA = true ∧
      (xs.length + ys.length) * te.bytes ≤ 140737488355328 ∧ xs.length + ys.length ≤ 4611686018427387904 ∧ tokLive H te.size e tk ∧
      K (.eff H ((killTok H tk).upd ⟨te.size, key, e⟩ (some .tok)) (.list (tokBy tk ys ⟨te.size, key, e⟩) (xs ++ ys.map (·.map strip))))
  | none => False
def appendK (tb : Tab) (key : List Nat) (u u' : TypeId) (H : Hp) (K : Ev → Prop) (x y : AV) : Prop := match tb u with
  | some ⟨.slice e, _, _, _⟩ => match tb e with
    | some te => match x with
      | .list tk xs => appS te e key H K tk xs (srcA tb te.size u' y)
      | _ => False
    | none => False
  | _ => False
@[go_sem] theorem vcOp_append {u u' : TypeId} {x y : Operand} : vcOp P tb Sp w0 mb draw key ⟨dst, .call ⟨.builtin .append, #[x, y], #[u, u']⟩, ty, pos, after, g⟩ t H K = appendK tb key u u' H K (evA t x) (evA t y) := rfl
@[go_sem] theorem appS_some {te : TI} {e : TypeId} {tk : Tok} {xs ys : List (List AV)} {ψ : Prop} : appS te e key H K tk xs (some (ψ, ys)) = (ψ ∧ (∀ y ∈ xs, y.length = te.size) ∧ 0 < te.size ∧ (absC te.zero).cells.length = te.size ∧ ys.flatten.all oneA = true ∧
      (xs.length + ys.length) * te.bytes ≤ 140737488355328 ∧ xs.length + ys.length ≤ 4611686018427387904 ∧ tokLive H te.size e tk ∧
      K (.eff H ((killTok H tk).upd ⟨te.size, key, e⟩ (some .tok)) (.list (tokBy tk ys ⟨te.size, key, e⟩) (xs ++ ys.map (·.map strip))))) := rfl
/-- What a call asks: that somebody knows what comes of it. -/
def callK (P : Program) (w0 : Base) (key : List Nat) (f : FuncId) (args : List AV) (H : Hp) (K : Ev → Prop) (e : Option (Prop × AV)) : Prop := match e with
  | some (φ, v) => φ ∧ K (.val v)
  | none => ∃ H' v, (CallAt P w0 key f args H H' v ∧ K (.eff H H' v)) ∨ (PanAt P w0 key f args H H' v ∧ K (.pan H H' v))
/-- What a call of a loop's yield asks. -/
def yieldK (P : Program) (w0 : Base) (key : List Nat) (l : Nat) (args : List AV) (H : Hp) (K : Ev → Prop) : Prop := ∃ H' v, YieldIn P w0 key l args H H' v ∧ K (.eff H H' v)
def callF (P : Program) (Sp : Spec) (w0 : Base) (key : List Nat) (args : List AV) (H : Hp) (K : Ev → Prop) (f : AV) : Prop := match f with
  | .clo (.func f) first caps => callK P w0 key f (first ++ args ++ caps) H K (Sp f (first ++ args ++ caps))
  | .clo (.yield l) [] [] => yieldK P w0 key l args H K
  | _ => False
@[go_sem] theorem vcOp_call {f : Operand} {xs : List Operand} {us : Array TypeId} : vcOp P tb Sp w0 mb draw key ⟨dst, .call ⟨.value f, xs.toArray, us⟩, ty, pos, after, g⟩ t H K = callF P Sp w0 key (xs.map (evA t)) H K (evA t f) := by
  simp only [vcOp, callF, callK]
  generalize evA t f = v
  cases v <;> rfl
@[go_sem] theorem callF_yield {l : Nat} {args : List AV} : callF P Sp w0 key args H K (.clo (.yield l) [] []) = yieldK P w0 key l args H K := rfl
@[go_sem] theorem callF_clo {f : FuncId} {first caps args : List AV} : callF P Sp w0 key args H K (.clo (.func f) first caps) = callK P w0 key f (first ++ args ++ caps) H K (Sp f (first ++ args ++ caps)) := rfl
@[go_sem] theorem callK_some {f : FuncId} {args : List AV} {φ : Prop} {v : AV} : callK P w0 key f args H K (some (φ, v)) = (φ ∧ K (.val v)) := rfl
theorem CallAt.pre {k : List Nat} {f : FuncId} {args : List AV} {H0 H H' : Hp} {v : AV} (h : CallAt P w0 k f args H0 H' v) (hl : H0.Le H) : CallAt P w0 k f args H H' v := by
  rcases h with h | ⟨fn, e, h1, h2, h3, h4, h5, h6⟩
  · exact .inl ⟨h.1, fun G w ca hs hf hr R hR => h.2 G w ca (hs.forget hl) hf hr R hR⟩
  · exact .inr ⟨fn, e, h1, h2, h3, h4, h5, fun G w ca hs hf hr => h6 G w ca (hs.forget hl) hf hr⟩
theorem YieldIn.pre {k : List Nat} {l : Nat} {args : List AV} {H0 H H' : Hp} {v : AV} (h : YieldIn P w0 k l args H0 H' v) (hl : H0.Le H) : YieldIn P w0 k l args H H' v := fun G w ca hs hf hr R hR => h G w ca (hs.forget hl) hf hr R hR
theorem yieldK_intro {l : Nat} {args : List AV} {H0 H' : Hp} {v : AV} (h : YieldIn P w0 key l args H0 H' v) (hl : H0.Le H) (k : K (.eff H H' v)) : yieldK P w0 key l args H K := ⟨H', v, h.pre hl, k⟩
theorem callK_pre {f : FuncId} {args : List AV} {H0 H' : Hp} {v : AV} (h : CallAt P w0 key f args H0 H' v) (hl : H0.Le H) (k : K (.eff H H' v)) : callK P w0 key f args H K none := ⟨H', v, .inl ⟨h.pre hl, k⟩⟩
theorem callK_intro {f : FuncId} {args : List AV} {H' : Hp} {v : AV} (h : CallAt P w0 key f args H H' v) (k : K (.eff H H' v)) : callK P w0 key f args H K none := ⟨H', v, .inl ⟨h, k⟩⟩
theorem PanAt.pre {k : List Nat} {f : FuncId} {args : List AV} {H0 H H' : Hp} {v : AV} (h : PanAt P w0 k f args H0 H' v) (hl : H0.Le H) : PanAt P w0 k f args H H' v := ⟨h.1, fun G w ca hs hf hr R hR => h.2 G w ca (hs.forget hl) hf hr R hR⟩
/-- What follows a call's outcome. -/
def outK (K : Ev → Prop) (H H' : Hp) : Out → Prop
  | .ret v => K (.eff H H' v)
  | .pan v => K (.pan H H' v)
@[go_sem] theorem outK_ret {H' : Hp} {v : AV} : outK K H H' (.ret v) = K (.eff H H' v) := rfl
@[go_sem] theorem outK_pan {H' : Hp} {v : AV} : outK K H H' (.pan v) = K (.pan H H' v) := rfl
theorem callK_out {f : FuncId} {args : List AV} {H' : Hp} {o : Out} (h : CallO P w0 key f args H H' o) (k : outK K H H' o) : callK P w0 key f args H K none := by
  cases o with
  | ret v => exact ⟨H', v, .inl ⟨h, k⟩⟩
  | pan v => exact ⟨H', v, .inr ⟨h, k⟩⟩
/-- A panic of the text's own. -/
def panK (H : Hp) (K : Ev → Prop) (v : AV) : Prop := match v with
  | .iface t v => K (.pan H H (.iface t v))
  | _ => False
@[go_sem] theorem vcOp_panic {x : Operand} : vcOp P tb Sp w0 mb draw key ⟨dst, .panic x, ty, pos, after, g⟩ t H K = panK H K (evA t x) := by
  simp only [vcOp, panK]
  generalize evA t x = v
  cases v <;> rfl
@[go_sem] theorem panK_iface {u : TypeId} {v : AV} : panK H K (.iface u v) = K (.pan H H (.iface u v)) := rfl
end

@[go_sem] theorem evA_tmp {t : List AV} {i : Nat} : evA t (.tmp i) = t.getD i AV.undef := rfl
@[go_sem] theorem evA_const {t : List AV} {v : Value} : evA t (.const v) = absC v := rfl
@[go_sem] theorem evA_func {t : List AV} {f : Nat} : evA t (.func f) = .clo (.func f) [] [] := rfl
@[go_sem] theorem absC_bool {b : Bool} : absC (.bool b) = .raw (.bool b) := rfl
@[go_sem] theorem absC_int {k : IntKind} {n : Int} : absC (.int k n) = .raw (.int k n) := rfl
@[go_sem] theorem absC_string {s : ByteArray} : absC (.string s) = .raw (.string s) := rfl
@[go_sem] theorem absC_slice : absC (.slice none 0 0) = .list .nil [] := rfl
@[go_sem] theorem absC_niliface : absC .nilIface = .raw .nilIface := rfl
@[go_sem] theorem absC_nilfunc : absC .nilFunc = .raw .nilFunc := rfl
@[go_sem] theorem absC_nilptr : absC (.pointer none) = .raw (.pointer none) := rfl
@[go_sem] theorem absC_tuple {c : Array Value} : absC (.tuple c) = .raw (.tuple c) := rfl
@[go_sem] theorem absC_agg {c : List Value} : absC (.agg c.toArray) = .agg (c.map absC1) := rfl
@[go_sem] theorem absC1_bool {b : Bool} : absC1 (.bool b) = .raw (.bool b) := rfl
@[go_sem] theorem absC1_int {k : IntKind} {n : Int} : absC1 (.int k n) = .raw (.int k n) := rfl
@[go_sem] theorem absC1_string {s : ByteArray} : absC1 (.string s) = .raw (.string s) := rfl
@[go_sem] theorem absC1_slice : absC1 (.slice none 0 0) = .list .nil [] := rfl
@[go_sem] theorem absC1_nilptr : absC1 (.pointer none) = .raw (.pointer none) := rfl
@[go_sem] theorem absC1_nilfunc : absC1 .nilFunc = .raw .nilFunc := rfl
@[go_sem] theorem absC1_niliface : absC1 .nilIface = .raw .nilIface := rfl
@[go_sem] theorem putA_some {t : List AV} {d : Tmp} {v : AV} : putA t (some d) v = t.set d v := rfl
@[go_sem] theorem putA_none {t : List AV} {v : AV} : putA t none v = t := rfl
theorem getD_set {t : List AV} {i j : Nat} {v d : AV} : (t.set i v).getD j d = bif i == j then (if i < t.length then v else d) else t.getD j d := by
  rw [List.getD_eq_getElem?_getD, List.getElem?_set]
  by_cases h : i = j
  · subst h
    simp only [if_true, beq_self_eq_true, cond_true]
    split <;> rfl
  · simp only [h, if_false, beq_false_of_ne h, cond_false, ← List.getD_eq_getElem?_getD]
attribute [go_sem] getD_set List.length_set List.map_cons List.map_nil List.cons_append List.nil_append List.append_nil Option.map_some Option.map_none cond_true cond_false
attribute [go_sem] Option.getD_some Option.getD_none Option.isSome_some Option.isSome_none true_and and_true implies_true Bool.true_eq_false Bool.false_eq_true false_implies true_implies if_true if_false and_self forall_const
attribute [go_sem] thenR
attribute [go_sem] Bool.not_true Bool.not_false
attribute [go_sem] ge_iff_le gt_iff_lt List.elem List.length_cons List.length_nil List.getD_cons_zero List.getD_cons_succ List.drop_succ_cons List.take_succ_cons List.take_zero List.length_map List.set_cons_zero List.set_cons_succ List.mem_cons List.not_mem_nil
attribute [go_sem] isNilC nilI binN binA binInt binStr binBool unA convA pickA lenA indexA indexAddrA fieldA fieldAddrA loadA nilCheckA extractA sliceA minmaxA buildA fillA placeOf srcA appendK convP binPtr ptrEq layAt partA readA TI.isAgg sliceLitA mkIfaceA AV.cells List.drop_zero List.getElem?_cons_zero List.getElem?_cons_succ Int.toNat_natCast

@[go_sem] theorem zeroCells_zero {z : Value} : zeroCellsA z 0 = [] := rfl
@[go_sem] theorem zeroCells_succ {z : Value} {n : Nat} : zeroCellsA z (n + 1) = zeroCellsA z n ++ [(absC z).cells.getD (n % (absC z).cells.length) AV.undef] := by
  simp only [zeroCellsA, List.range_succ, List.map_append, List.map_cons, List.map_nil]
attribute [go_sem] chunks
@[go_sem] theorem killTok_full {H : Hp} : killTok H .full = H := rfl
@[go_sem] theorem killTok_nil {H : Hp} : killTok H .nil = H := rfl
@[go_sem] theorem killTok_tok' {H : Hp} {t : Id} : killTok H (.tok t) = H.upd t none := rfl
@[go_sem] theorem strip_raw {v : Value} : strip (.raw v) = .raw v := rfl
def TD.isI : TD → Bool
  | .iface _ => true
  | _ => false
@[go_sem] theorem isI_bool : TD.isI .bool = false := rfl
@[go_sem] theorem isI_int {k : IntKind} : TD.isI (.int k) = false := rfl
@[go_sem] theorem isI_string : TD.isI .string = false := rfl
@[go_sem] theorem isI_pointer {e : TypeId} : TD.isI (.pointer e) = false := rfl
@[go_sem] theorem isI_slice {e : TypeId} : TD.isI (.slice e) = false := rfl
@[go_sem] theorem isI_array {n : Nat} {e : TypeId} : TD.isI (.array n e) = false := rfl
@[go_sem] theorem isI_struct {fs : List (Nat × TypeId)} : TD.isI (.struct fs) = false := rfl
def assertT (same : Bool) (z : Value) (ok : Bool) (v : AV) : Option (Prop × AV) := match same, ok with
  | true, true => some (True, .tup [v, .bool true])
  | true, false => some (True, v)
  | false, true => some (True, .tup [absC z, .bool false])
  | false, false => none
@[go_sem] theorem assertT_tt {z : Value} {v : AV} : assertT true z true v = some (True, .tup [v, .bool true]) := rfl
@[go_sem] theorem assertT_tf {z : Value} {v : AV} : assertT true z false v = some (True, v) := rfl
@[go_sem] theorem assertT_ft {z : Value} {v : AV} : assertT false z true v = some (True, .tup [absC z, .bool false]) := rfl
def assertV (i : Bool) (z : Value) (a : TypeId) (ok : Bool) (x : AV) : Option (Prop × AV) := match i with
  | true => none
  | false => match x with
    | .iface t v => assertT (t == a) z ok v
    | .raw .nilIface => assertT false z ok AV.undef
    | _ => none
@[go_sem] theorem assertV_iface {z : Value} {a t : TypeId} {ok : Bool} {v : AV} : assertV false z a ok (.iface t v) = assertT (t == a) z ok v := rfl
@[go_sem] theorem assertV_nil {z : Value} {a : TypeId} {ok : Bool} : assertV false z a ok (.raw .nilIface) = assertT false z ok AV.undef := rfl
def assertW (e : Option TI) (a : TypeId) (ok : Bool) (x : AV) : Option (Prop × AV) := match e with
  | some ti => assertV ti.td.isI ti.zero a ok x
  | none => none
@[go_sem] theorem assertW_some {d : TD} {s b : Nat} {z : Value} {a : TypeId} {ok : Bool} {x : AV} : assertW (some ⟨d, s, b, z⟩) a ok x = assertV d.isI z a ok x := rfl
@[go_sem] theorem assertA_at {tb : Tab} {a : TypeId} {ok : Bool} {x : AV} : assertA tb a ok x = assertW (tb a) a ok x := by
  unfold assertA assertW assertV assertT
  cases tb a with
  | none => rfl
  | some ti =>
    obtain ⟨d, s, b, z⟩ := ti
    cases d <;> try rfl
    all_goals
      cases x with
      | iface t v =>
        by_cases h : t = a
        · subst h
          cases ok <;> simp [TD.isI]
        · have h2 : (t == a) = false := by simpa using h
          cases ok <;> simp [h, h2, TD.isI]
      | raw v => cases v <;> cases ok <;> rfl
      | _ => cases ok <;> rfl
/-- How a body ends. -/
def endR (tb : Tab) (rs : List ResultVar) (v : AV) (H' : Hp) : AEx → FS → Prop := fun x s' => (x = .normal ∨ x = .ret) ∧ ∃ u, resA tb rs s' = some u ∧ Weak u v ∧ H'.Le s'.H
def endK (v : AV) (H' H : Hp) (u : Option AV) : Prop := ∃ x, u = some x ∧ Weak x v ∧ H'.Le H
section
variable {tb : Tab} {rs : List ResultVar} {v : AV} {H H' : Hp} {s : FS}
@[go_sem] theorem endR_normal : endR tb rs v H' .normal s = endK v H' s.H (resA tb rs s) := by simp [endR, endK]
@[go_sem] theorem endR_ret : endR tb rs v H' .ret s = endK v H' s.H (resA tb rs s) := by simp [endR, endK]
@[go_sem] theorem endR_panic {u : AV} : endR tb rs v H' (.panic u) s = False := by simp [endR]
@[go_sem] theorem endK_some {u : AV} : endK v H' H (some u) = (Weak u v ∧ H'.Le H) := by simp [endK]
@[go_sem] theorem le_self : H.Le H = True := by simp [Hp.Le]
@[go_sem] theorem weak_self : Weak v v = True := eq_true (Weak.refl v)
theorem weak_raw {a b : Value} : Weak (.raw a) (.raw b) = (a = b) := by
  refine propext ⟨fun h => ?_, fun h => h ▸ Weak.refl _⟩
  have := h ⟨fun _ => none, fun _ => none, fun _ => none, fun _ => none⟩ a (by simp [Rep])
  simpa [Rep] using this
@[go_sem] theorem weak_bool {a b : Bool} : Weak (.raw (.bool a)) (.raw (.bool b)) = (a = b) := by rw [weak_raw]; simp
@[go_sem] theorem weak_int {k k' : IntKind} {a b : Int} : Weak (.raw (.int k a)) (.raw (.int k' b)) = (k = k' ∧ a = b) := by rw [weak_raw]; simp
@[go_sem] theorem weak_str {a b : ByteArray} : Weak (.raw (.string a)) (.raw (.string b)) = (a = b) := by rw [weak_raw]; simp
@[go_sem] theorem resA_nil : resA tb [] s = some (.tup []) := rfl
@[go_sem] theorem resA_one {r : ResultVar} : resA tb [r] s = resOne tb s r := by
  unfold resA resAll resAll
  cases resOne tb s r <;> rfl
@[go_sem] theorem resA_two {r q : ResultVar} : resA tb [r, q] s = (resOne tb s r).bind fun a => (resOne tb s q).bind fun b => some (.tup [a, b]) := by
  unfold resA resAll resAll resAll
  cases resOne tb s r <;> cases resOne tb s q <;> rfl
@[go_sem] theorem resA_three {r q o : ResultVar} : resA tb [r, q, o] s = (resOne tb s r).bind fun a => (resOne tb s q).bind fun b => (resOne tb s o).bind fun c => some (.tup [a, b, c]) := by
  unfold resA resAll resAll resAll resAll
  cases resOne tb s r <;> cases resOne tb s q <;> cases resOne tb s o <;> rfl
@[go_sem] theorem resOne_tmp {t : List AV} {n : Nat} {i : Tmp} : resOne tb ⟨t, n, H⟩ (.tmp i) = some (t.getD i AV.undef) := rfl
attribute [go_sem] Option.bind_some
def cellK (ti : Option TI) (off : Nat) (e : Option Ent) : Option AV := match ti, e with
  | some ti, some (.cells c) => if off + ti.size ≤ c.length ∧ 0 < ti.size then some (readA ti c off) else none
  | _, _ => none
def cellR (tb : Tab) (H : Hp) (ty : TypeId) (v : AV) : Option AV := match v with
  | .ptr id off => cellK (tb ty) off (H id)
  | .sptr cells => match tb ty with
    | some ti => if ti.size ≤ cells.length ∧ 0 < ti.size then some (partA ti cells 0) else none
    | none => none
  | _ => none
@[go_sem] theorem resOne_cell {t : List AV} {n : Nat} {i : Tmp} {ty : TypeId} : resOne tb ⟨t, n, H⟩ (.cell i ty) = cellR tb H ty (t.getD i AV.undef) := by
  simp only [resOne, cellR]
  generalize t.getD i AV.undef = v
  cases v <;> rfl
@[go_sem] theorem cellR_ptr {ty : TypeId} {id : Id} {off : Nat} : cellR tb H ty (.ptr id off) = cellK (tb ty) off (H id) := rfl
@[go_sem] theorem cellK_some {ti : TI} {off : Nat} {c : List AV} : cellK (some ti) off (some (.cells c)) = if off + ti.size ≤ c.length ∧ 0 < ti.size then some (readA ti c off) else none := rfl
end

/-- How a loop's round ends. -/
def loopL (I : Nat → FS → Prop) (j : Nat) (R : AEx → FS → Prop) : AEx → FS → Prop := thenR (fun s => ∃ j', j = j' + 1 ∧ I j' s) R
section
variable {I : Nat → FS → Prop} {j : Nat} {R : AEx → FS → Prop} {s : FS}
@[go_sem] theorem loopL_normal : loopL I j R .normal s = (∃ j', j = j' + 1 ∧ I j' s) := rfl
@[go_sem] theorem loopL_exit {i : Nat} : loopL I j R (.exit i) s = R (.exit i) s := rfl
@[go_sem] theorem loopL_ret : loopL I j R .ret s = R .ret s := rfl
@[go_sem] theorem loopL_panic {v : AV} : loopL I j R (.panic v) s = R (.panic v) s := rfl
end
/-- A loop, by what holds at its head and how many rounds are left at most. -/
theorem loop_inv {P : Program} {tb : Tab} {Sp : Spec} {w0 : Base} {ro : Option Nat} {p : List Nat} (hT : TabOk P tb) (hS : SpecOk P w0 Sp) (hm : P.follows .mixedOrders = true) (mb : List Tmp) {c : Code} {s : FS} {R : AEx → FS → Prop}
    (I : Nat → FS → Prop) (j0 : Nat) (h0 : I j0 s) (h : ∀ j s, I j s → vc P tb Sp w0 ro mb p c s (loopL I j R)) : LoopOk P w0 ro p c s R := by
  have go : ∀ j s, I j s → ∃ x s', R x s' ∧ LoopN P w0 ro p (j + 1) c s (eqR x s') := by
    intro j
    induction j with
    | zero =>
      intro s hs
      obtain ⟨x, s', h1, h2⟩ := vc_det hT hS hm _ _ _ (h 0 s hs)
      cases x with
      | normal => obtain ⟨j', hj, _⟩ := h1; omega
      | exit i =>
        refine ⟨.exit i, s', h1, loop_step (h2.mono fun y t hy => ?_)⟩
        obtain ⟨rfl, rfl⟩ := hy
        exact ⟨rfl, rfl⟩
      | ret =>
        refine ⟨.ret, s', h1, loop_step (h2.mono fun y t hy => ?_)⟩
        obtain ⟨rfl, rfl⟩ := hy
        exact ⟨rfl, rfl⟩
      | panic v =>
        refine ⟨.panic v, s', h1, loop_step (h2.mono fun y t hy => ?_)⟩
        obtain ⟨rfl, rfl⟩ := hy
        exact ⟨rfl, rfl⟩
    | succ j ih =>
      intro s hs
      obtain ⟨x, s', h1, h2⟩ := vc_det hT hS hm _ _ _ (h (j + 1) s hs)
      cases x with
      | normal =>
        obtain ⟨j', hj, hI⟩ := h1
        obtain rfl : j' = j := by omega
        obtain ⟨y, s2, h3, h4⟩ := ih s' hI
        refine ⟨y, s2, h3, loop_step (h2.mono fun z t hz => ?_)⟩
        obtain ⟨rfl, rfl⟩ := hz
        exact h4
      | exit i =>
        refine ⟨.exit i, s', h1, loop_step (h2.mono fun y t hy => ?_)⟩
        obtain ⟨rfl, rfl⟩ := hy
        exact ⟨rfl, rfl⟩
      | ret =>
        refine ⟨.ret, s', h1, loop_step (h2.mono fun y t hy => ?_)⟩
        obtain ⟨rfl, rfl⟩ := hy
        exact ⟨rfl, rfl⟩
      | panic v =>
        refine ⟨.panic v, s', h1, loop_step (h2.mono fun y t hy => ?_)⟩
        obtain ⟨rfl, rfl⟩ := hy
        exact ⟨rfl, rfl⟩
  obtain ⟨x, s', h1, h2⟩ := go j0 s h0
  exact ⟨x, s', h1, _, h2⟩

/-- Slots from a place on. -/
def At (t : List AV) : Nat → List AV → Prop
  | _, [] => True
  | i, a :: vs => t.getD i AV.undef = a ∧ At t (i + 1) vs
theorem at_prefix (r : List AV) : ∀ (l vs : List AV), At (l ++ (vs ++ r)) l.length vs
  | l, [] => trivial
  | l, a :: vs => by
    refine ⟨by simp [List.getD_eq_getElem?_getD], ?_⟩
    have := at_prefix r (l ++ [a]) vs
    simpa using this

/-- A call, out of the function's body: of slots that hold the arguments. -/
theorem bodyAt {P : Program} {tb : Tab} {Sp : Spec} {w0 : Base} {k : List Nat} (hT : TabOk P tb) (hS : SpecOk P w0 Sp) (hm : P.follows .mixedOrders = true) {f : FuncId} {fn : Func} {c : Code} {args : List AV} {H H' : Hp} {v : AV} (hf : P.funcs[f]? = some fn) (hb : fn.body = some c) (hn : (fn.name == "runtime.NumGoroutine") = false)
    {rs : List ResultVar} {nt : Nat} (hrs : fn.results = rs.toArray) (hnt : fn.ntmps = nt) (ha : args.length ≤ nt) (mb : List Tmp)
    (h : (∀ i : Id, k <:+ i.key → H i = none) → ∀ t, t.length = nt → At t 0 args → vc P tb Sp w0 none mb k c ⟨t, 0, H⟩ (endR tb rs v H')) : BodyAt P w0 k f args H H' v :=
  callAt_of_vc hT hS hm hf hb hn hrs hnt mb fun hfr => h hfr _ (by simp; omega) (at_prefix _ [] args)
theorem callAt {P : Program} {tb : Tab} {Sp : Spec} {w0 : Base} {k : List Nat} (hT : TabOk P tb) (hS : SpecOk P w0 Sp) (hm : P.follows .mixedOrders = true) {f : FuncId} {fn : Func} {c : Code} {args : List AV} {H H' : Hp} {v : AV} (hf : P.funcs[f]? = some fn) (hb : fn.body = some c) (hn : (fn.name == "runtime.NumGoroutine") = false)
    {rs : List ResultVar} {nt : Nat} (hrs : fn.results = rs.toArray) (hnt : fn.ntmps = nt) (ha : args.length ≤ nt) (mb : List Tmp)
    (h : (∀ i : Id, k <:+ i.key → H i = none) → ∀ t, t.length = nt → At t 0 args → vc P tb Sp w0 none mb k c ⟨t, 0, H⟩ (endR tb rs v H')) : CallAt P w0 k f args H H' v := .inl (bodyAt hT hS hm hf hb hn hrs hnt ha mb h)
/-- How a body ends, if what it comes to is told. -/
def endO (tb : Tab) (rs : List ResultVar) (o : Out) (H' : Hp) : AEx → FS → Prop := endOx tb rs o H'
def retO (o : Out) (H' H : Hp) (u : Option AV) : Prop := ∃ x, u = some x ∧ ∃ v, o = .ret v ∧ Weak x v ∧ H'.Le H
section
variable {tb : Tab} {rs : List ResultVar} {o : Out} {H H' : Hp} {s : FS}
@[go_sem] theorem endO_normal : endO tb rs o H' .normal s = retO o H' s.H (resA tb rs s) := propext ⟨fun ⟨v, h1, u, h2, h3, h4⟩ => ⟨u, h2, v, h1, h3, h4⟩, fun ⟨u, h2, v, h1, h3, h4⟩ => ⟨v, h1, u, h2, h3, h4⟩⟩
@[go_sem] theorem endO_ret : endO tb rs o H' .ret s = retO o H' s.H (resA tb rs s) := endO_normal
@[go_sem] theorem endO_panic {u : AV} : endO tb rs o H' (.panic u) s = ∃ v, o = .pan v ∧ Weak u v ∧ H'.Le s.H := rfl
@[go_sem] theorem retO_some {u : AV} : retO o H' H (some u) = ∃ v, o = .ret v ∧ Weak u v ∧ H'.Le H := by simp [retO]
end
theorem callO {P : Program} {tb : Tab} {Sp : Spec} {w0 : Base} {k : List Nat} (hT : TabOk P tb) (hS : SpecOk P w0 Sp) (hm : P.follows .mixedOrders = true) {f : FuncId} {fn : Func} {c : Code} {args : List AV} {H H' : Hp} {o : Out} (hf : P.funcs[f]? = some fn) (hb : fn.body = some c) (hn : (fn.name == "runtime.NumGoroutine") = false)
    {rs : List ResultVar} {nt : Nat} (hrs : fn.results = rs.toArray) (hnt : fn.ntmps = nt) (ha : args.length ≤ nt) (mb : List Tmp)
    (h : (∀ i : Id, k <:+ i.key → H i = none) → ∀ t, t.length = nt → At t 0 args → vc P tb Sp w0 none mb k c ⟨t, 0, H⟩ (endO tb rs o H')) : CallO P w0 k f args H H' o :=
  (callO_of_vc hT hS hm hf hb hn hrs hnt mb fun hfr => h hfr _ (by simp; omega) (at_prefix _ [] args)).call
/-- How a body ends, of which something is told. -/
def endX (tb : Tab) (rs : List ResultVar) (Q : Hp → AV → Prop) : AEx → FS → Prop := fun x s' => (x = .normal ∨ x = .ret) ∧ ∃ u, resA tb rs s' = some u ∧ ∃ v, Weak u v ∧ ∃ H', H'.Le s'.H ∧ Q H' v
def endXK (Q : Hp → AV → Prop) (H : Hp) (u : Option AV) : Prop := ∃ x, u = some x ∧ ∃ v, Weak x v ∧ ∃ H', H'.Le H ∧ Q H' v
section
variable {tb : Tab} {rs : List ResultVar} {H : Hp} {s : FS} {Q : Hp → AV → Prop}
@[go_sem] theorem endX_normal : endX tb rs Q .normal s = endXK Q s.H (resA tb rs s) := by simp [endX, endXK]
@[go_sem] theorem endX_ret : endX tb rs Q .ret s = endXK Q s.H (resA tb rs s) := by simp [endX, endXK]
@[go_sem] theorem endX_panic {u : AV} : endX tb rs Q (.panic u) s = False := by simp [endX]
@[go_sem] theorem endXK_some {u : AV} : endXK Q H (some u) = ∃ v, Weak u v ∧ ∃ H', H'.Le H ∧ Q H' v := by simp [endXK]
end
theorem callX {P : Program} {tb : Tab} {Sp : Spec} {w0 : Base} {k : List Nat} (hT : TabOk P tb) (hS : SpecOk P w0 Sp) (hm : P.follows .mixedOrders = true) {f : FuncId} {fn : Func} {c : Code} {args : List AV} {H : Hp} {Q : Hp → AV → Prop} (hf : P.funcs[f]? = some fn) (hb : fn.body = some c) (hn : (fn.name == "runtime.NumGoroutine") = false)
    {rs : List ResultVar} {nt : Nat} (hrs : fn.results = rs.toArray) (hnt : fn.ntmps = nt) (ha : args.length ≤ nt) (mb : List Tmp) (hQ : ∃ H' v, Q H' v)
    (h : (∀ i : Id, k <:+ i.key → H i = none) → ∀ t, t.length = nt → At t 0 args → vc P tb Sp w0 none mb k c ⟨t, 0, H⟩ (endX tb rs Q)) : ∃ H' v, Q H' v ∧ CallAt P w0 k f args H H' v := by
  obtain ⟨H', v, h1, h2⟩ := callX_of_vc hT hS hm hf hb hn hrs hnt mb hQ fun hfr => h hfr _ (by simp; omega) (at_prefix _ [] args)
  exact ⟨H', v, h1, .inl h2⟩
theorem callK_ex {P : Program} {w0 : Base} {key : List Nat} {f : FuncId} {args : List AV} {K : Ev → Prop} {H : Hp} {Q : Hp → AV → Prop} (h : ∃ H' v, Q H' v ∧ CallAt P w0 key f args H H' v) (hk : ∀ H' v, Q H' v → K (.eff H H' v)) : callK P w0 key f args H K none := by
  obtain ⟨H', v, h1, h2⟩ := h
  exact ⟨H', v, .inl ⟨h2, hk H' v h1⟩⟩
theorem specOk_none {P : Program} {w0 : Base} : SpecOk P w0 (fun _ _ => none) := fun _ _ _ _ h => by cases h
theorem wrap_i64 {n : Int} (h : -9223372036854775808 ≤ n) (h2 : n < 9223372036854775808) : IntKind.i64.wrap n = n := by
  rw [IntKind.wrap_i64]
  omega
end Go.Proofs.YtkdendaohlnlcaaGreatDoor.Av

/- What is known of functions, kept as a list; arguments are read as plain data. No condition. -/
namespace Go.Proofs.YtkdendaohlnlcaaGreatDoor.Av
set_option linter.unusedVariables false
set_option linter.unusedSimpArgs false
set_option maxRecDepth 4000
set_option maxHeartbeats 1000000

/-- Pairs, one by one. -/
def allR {α : Type} (R : α → α → Prop) (x : α) : List α → Prop
  | [] => True
  | y :: l => R x y ∧ allR R x l
def pwAll {α : Type} (R : α → α → Prop) : List α → Prop
  | [] => True
  | x :: l => allR R x l ∧ pwAll R l
theorem allR_mem {α : Type} {R : α → α → Prop} {x : α} : ∀ {l : List α}, allR R x l → ∀ y ∈ l, R x y
  | [], _, y, hy => by cases hy
  | z :: l, h, y, hy => by
    rcases List.mem_cons.1 hy with rfl | hy
    · exact h.1
    · exact allR_mem h.2 y hy
theorem pw_of {α : Type} {R : α → α → Prop} : ∀ {l : List α}, pwAll R l → l.Pairwise R
  | [], _ => List.Pairwise.nil
  | x :: l, h => List.Pairwise.cons (allR_mem h.1) (pw_of h.2)
theorem CallAt.weakL {P : Program} {w0 : Base} {k : List Nat} {f : FuncId} {args args' : List AV} {H H' : Hp} {v : AV} (h : CallAt P w0 k f args' H H' v) (hw : WeakL args args') : CallAt P w0 k f args H H' v := h.weak fun G V hr => hw.rep hr

/-- How plain data lie in values, and how they are read off. -/
structure Dec (α : Type) where
  dec : AV → Option α
  enc : α → AV
  ok : ∀ a x, dec a = some x → Weak a (enc x)

abbrev Ans := List AV → Option (Prop × AV)
def Spec.no : Spec := fun _ _ => none
def Spec.add (S : Spec) (f : FuncId) (d : Ans) : Spec := fun g as_ => bif g == f then d as_ else S g as_
@[go_sem] theorem Spec.add_at {S : Spec} {f g : FuncId} {d : Ans} {l : List AV} : S.add f d g l = bif g == f then d l else S g l := rfl

def AnsOk (P : Program) (w0 : Base) (f : FuncId) (d : Ans) : Prop := ∀ l φ v, d l = some (φ, v) → φ → ∀ k H, CallAt P w0 k f l H H v
section
variable {P : Program} {w0 : Base}
theorem Spec.no_ok : SpecOk P w0 Spec.no := fun _ _ _ _ h => by cases h
theorem SpecOk.add {S : Spec} (h : SpecOk P w0 S) {f : FuncId} {d : Ans} (hd : AnsOk P w0 f d) : SpecOk P w0 (S.add f d) := by
  intro g l φ v e hφ k H
  unfold Spec.add at e
  cases hg : g == f with
  | true =>
    rw [hg] at e
    obtain rfl : g = f := by simpa using hg
    exact hd l φ v e hφ k H
  | false =>
    rw [hg] at e
    exact h g l φ v e hφ k H
end
section
variable {α β γ δ : Type}
def sp1 (A : Dec α) (φ : α → Prop) (v : α → AV) : Ans
  | [a] => (A.dec a).bind fun x => some (φ x, v x)
  | _ => none
def sp2 (A : Dec α) (B : Dec β) (φ : α → β → Prop) (v : α → β → AV) : Ans
  | [a, b] => (A.dec a).bind fun x => (B.dec b).bind fun y => some (φ x y, v x y)
  | _ => none
def sp3 (A : Dec α) (B : Dec β) (C : Dec γ) (φ : α → β → γ → Prop) (v : α → β → γ → AV) : Ans
  | [a, b, c] => (A.dec a).bind fun x => (B.dec b).bind fun y => (C.dec c).bind fun z => some (φ x y z, v x y z)
  | _ => none
def sp4 (A : Dec α) (B : Dec β) (C : Dec γ) (D : Dec δ) (φ : α → β → γ → δ → Prop) (v : α → β → γ → δ → AV) : Ans
  | [a, b, c, d] => (A.dec a).bind fun x => (B.dec b).bind fun y => (C.dec c).bind fun z => (D.dec d).bind fun u => some (φ x y z u, v x y z u)
  | _ => none
variable {A : Dec α} {B : Dec β} {C : Dec γ} {D : Dec δ}
@[go_sem] theorem sp1_at {φ : α → Prop} {v : α → AV} {a : AV} : sp1 A φ v [a] = (A.dec a).bind fun x => some (φ x, v x) := rfl
@[go_sem] theorem sp2_at {φ : α → β → Prop} {v : α → β → AV} {a b : AV} : sp2 A B φ v [a, b] = (A.dec a).bind fun x => (B.dec b).bind fun y => some (φ x y, v x y) := rfl
@[go_sem] theorem sp3_at {φ : α → β → γ → Prop} {v : α → β → γ → AV} {a b c : AV} : sp3 A B C φ v [a, b, c] = (A.dec a).bind fun x => (B.dec b).bind fun y => (C.dec c).bind fun z => some (φ x y z, v x y z) := rfl
@[go_sem] theorem sp4_at {φ : α → β → γ → δ → Prop} {v : α → β → γ → δ → AV} {a b c d : AV} : sp4 A B C D φ v [a, b, c, d] = (A.dec a).bind fun x => (B.dec b).bind fun y => (C.dec c).bind fun z => (D.dec d).bind fun u => some (φ x y z u, v x y z u) := rfl
variable {P : Program} {w0 : Base} {f : FuncId}
theorem sp1_ok {φ : α → Prop} {v : α → AV} (h : ∀ x, φ x → ∀ k H, CallAt P w0 k f [A.enc x] H H (v x)) : AnsOk P w0 f (sp1 A φ v) := by
  intro l ψ u e hψ k H
  unfold sp1 at e
  split at e
  · simp only [Option.bind_eq_some_iff] at e
    obtain ⟨x, hx, e⟩ := e
    cases e
    exact (h x hψ k H).weakL ⟨_, _, rfl, A.ok _ _ hx, rfl⟩
  · cases e
theorem sp2_ok {φ : α → β → Prop} {v : α → β → AV} (h : ∀ x y, φ x y → ∀ k H, CallAt P w0 k f [A.enc x, B.enc y] H H (v x y)) : AnsOk P w0 f (sp2 A B φ v) := by
  intro l ψ u e hψ k H
  unfold sp2 at e
  split at e
  · simp only [Option.bind_eq_some_iff] at e
    obtain ⟨x, hx, y, hy, e⟩ := e
    cases e
    exact (h x y hψ k H).weakL ⟨_, _, rfl, A.ok _ _ hx, _, _, rfl, B.ok _ _ hy, rfl⟩
  · cases e
theorem sp3_ok {φ : α → β → γ → Prop} {v : α → β → γ → AV} (h : ∀ x y z, φ x y z → ∀ k H, CallAt P w0 k f [A.enc x, B.enc y, C.enc z] H H (v x y z)) : AnsOk P w0 f (sp3 A B C φ v) := by
  intro l ψ u e hψ k H
  unfold sp3 at e
  split at e
  · simp only [Option.bind_eq_some_iff] at e
    obtain ⟨x, hx, y, hy, z, hz, e⟩ := e
    cases e
    exact (h x y z hψ k H).weakL ⟨_, _, rfl, A.ok _ _ hx, _, _, rfl, B.ok _ _ hy, _, _, rfl, C.ok _ _ hz, rfl⟩
  · cases e
theorem sp4_ok {φ : α → β → γ → δ → Prop} {v : α → β → γ → δ → AV} (h : ∀ x y z o, φ x y z o → ∀ k H, CallAt P w0 k f [A.enc x, B.enc y, C.enc z, D.enc o] H H (v x y z o)) : AnsOk P w0 f (sp4 A B C D φ v) := by
  intro l ψ u e hψ k H
  unfold sp4 at e
  split at e
  · simp only [Option.bind_eq_some_iff] at e
    obtain ⟨x, hx, y, hy, z, hz, o, ho, e⟩ := e
    cases e
    exact (h x y z o hψ k H).weakL ⟨_, _, rfl, A.ok _ _ hx, _, _, rfl, B.ok _ _ hy, _, _, rfl, C.ok _ _ hz, _, _, rfl, D.ok _ _ ho, rfl⟩
  · cases e
end

def dI : Dec Int where
  dec := fun a => match a with
    | .raw (.int .i64 n) => some n
    | _ => none
  enc := .int .i64
  ok := fun a x h => by
    split at h
    · cases h
      exact Weak.refl _
    · cases h
def dC : Dec Int where
  dec := fun a => match a with
    | .raw (.int .u8 n) => some n
    | _ => none
  enc := .int .u8
  ok := fun a x h => by
    split at h
    · cases h
      exact Weak.refl _
    · cases h
def dB : Dec Bool where
  dec := fun a => match a with
    | .raw (.bool n) => some n
    | _ => none
  enc := .bool
  ok := fun a x h => by
    split at h
    · cases h
      exact Weak.refl _
    · cases h
def dS : Dec ByteArray where
  dec := fun a => match a with
    | .raw (.string n) => some n
    | _ => none
  enc := .str
  ok := fun a x h => by
    split at h
    · cases h
      exact Weak.refl _
    · cases h
@[go_sem] theorem dI_at {n : Int} : dI.dec (.raw (.int .i64 n)) = some n := rfl
@[go_sem] theorem dC_at {n : Int} : dC.dec (.raw (.int .u8 n)) = some n := rfl
@[go_sem] theorem dB_at {n : Bool} : dB.dec (.raw (.bool n)) = some n := rfl
@[go_sem] theorem dS_at {n : ByteArray} : dS.dec (.raw (.string n)) = some n := rfl
end Go.Proofs.YtkdendaohlnlcaaGreatDoor.Av

/- Expressions as plain data, and how they lie in memory. No condition. -/
namespace Go.Proofs.YtkdendaohlnlcaaGreatDoor.Av
set_option linter.unusedVariables false
set_option linter.unusedSimpArgs false
set_option maxRecDepth 4000
set_option maxHeartbeats 1000000

inductive E where
  | mk (kind id : Int) (kids : List E)
namespace E
def kind : E → Int | mk k _ _ => k
def id : E → Int | mk _ i _ => i
def kids : E → List E | mk _ _ ks => ks
end E
mutual
def E.cells : E → List AV
  | .mk k i ks => [.int .i64 k, .int .i64 i, .list .none (E.cellsL ks)]
def E.cellsL : List E → List (List AV)
  | [] => []
  | e :: es => e.cells :: E.cellsL es
end
theorem E.cellsL_eq : ∀ l : List E, E.cellsL l = l.map E.cells
  | [] => by simp [E.cellsL]
  | e :: es => by simp [E.cellsL, E.cellsL_eq es]
theorem E.cells_eq (e : E) : e.cells = [.int .i64 e.kind, .int .i64 e.id, .list .none (e.kids.map E.cells)] := by
  cases e
  simp [E.cells, E.kind, E.id, E.kids, E.cellsL_eq]
theorem E.cells_length (e : E) : e.cells.length = 3 := by rw [E.cells_eq]; rfl
abbrev E.av (e : E) : AV := .agg [.int .i64 e.kind, .int .i64 e.id, .list .none (e.kids.map E.cells)]

mutual
def toE : List AV → Option E
  | [.raw (.int .i64 k), .raw (.int .i64 i), .list _ xs] => match toEL xs with
    | some ks => some (.mk k i ks)
    | none => none
  | _ => none
def toEL : List (List AV) → Option (List E)
  | [] => some []
  | x :: xs => match toE x, toEL xs with
    | some e, some es => some (e :: es)
    | _, _ => none
end
mutual
theorem toE_cells : ∀ e : E, toE e.cells = some e
  | .mk k i ks => by simp only [E.cells, toE, toEL_cells ks]
theorem toEL_cells : ∀ l : List E, toEL (E.cellsL l) = some l
  | [] => by simp [E.cellsL, toEL]
  | e :: es => by simp only [E.cellsL, toEL, toE_cells e, toEL_cells es]
end
@[go_sem] theorem toE_at (e : E) (t : Tok) : toE [.raw (.int .i64 e.kind), .raw (.int .i64 e.id), .list t (e.kids.map E.cells)] = some e := by
  cases e with
  | mk k i ks => simp only [E.kind, E.id, E.kids, toE, ← E.cellsL_eq, toEL_cells]
@[go_sem] theorem toEL_at (l : List E) : toEL (l.map E.cells) = some l := by rw [← E.cellsL_eq, toEL_cells]

theorem toE_length : ∀ {c : List AV} {e : E}, toE c = some e → c.length = 3 := by
  intro c e h
  unfold toE at h
  split at h
  · rfl
  · cases h
theorem toEL_length : ∀ {xs : List (List AV)} {es : List E}, toEL xs = some es → xs.length = es.length
  | [], es, h => by simp only [toEL, Option.some.injEq] at h; subst h; rfl
  | x :: xs, es, h => by
    simp only [toEL] at h
    split at h <;> cases h
    rename_i e es h1 h2
    simp [toEL_length h2]
theorem toE_inv {c : List AV} {e : E} (h : toE c = some e) : ∃ t xs, c = [.raw (.int .i64 e.kind), .raw (.int .i64 e.id), .list t xs] ∧ toEL xs = some e.kids := by
  unfold toE at h
  split at h
  · split at h <;> cases h
    rename_i ks hks
    exact ⟨_, _, rfl, hks⟩
  · cases h
theorem toEL_inv {xs : List (List AV)} {e : E} {es : List E} (h : toEL xs = some (e :: es)) : ∃ y ys, xs = y :: ys ∧ toE y = some e ∧ toEL ys = some es := by
  cases xs with
  | nil => simp [toEL] at h
  | cons x xs =>
    simp only [toEL] at h
    split at h <;> cases h
    exact ⟨_, _, rfl, by assumption, by assumption⟩
mutual
theorem toE_rep {G : Gh} : ∀ (e : E) (c : List AV), toE c = some e → ∀ V, RepL G c V → RepL G e.cells V
  | .mk k i ks, c, h, V, hr => by
    obtain ⟨t, xs, rfl, hks⟩ := toE_inv h
    simp only [E.kind, E.id, E.kids] at hks hr
    simp only [E.cells, RepL] at hr ⊢
    obtain ⟨a, as1, h1, ha, b, as2, h2, hb, c, as3, h3, hc, h4⟩ := hr
    refine ⟨a, as1, h1, ha, b, as2, h2, hb, c, as3, h3, ?_, h4⟩
    simp only [Rep] at hc ⊢
    obtain ⟨A, n, cp, e1, e2, e3, e4, e5, ad, e6, e7⟩ := hc
    have hl := toEL_length hks
    have hl2 : (E.cellsL ks).length = ks.length := by simp [E.cellsL_eq]
    refine ⟨A, n, cp, e1, by omega, e3, trivial, ⟨3, ?_⟩, ad, fun hne => e6 ?_, toEL_rep ks xs hks ad 0 e7⟩
    · rw [E.cellsL_eq]
      intro x hx
      obtain ⟨y, _, rfl⟩ := List.mem_map.1 hx
      exact y.cells_length
    · intro hx
      rw [hx] at hl
      exact hne (List.length_eq_zero_iff.1 (by rw [hl2, ← hl]; rfl))
theorem toEL_rep {G : Gh} : ∀ (es : List E) (xs : List (List AV)), toEL xs = some es → ∀ ad k, RepE G ad k xs → RepE G ad k (E.cellsL es)
  | [], xs, h, ad, k, hr => by simp [E.cellsL, RepE]
  | e :: es, xs, h, ad, k, hr => by
    obtain ⟨y, ys, rfl, h1, h2⟩ := toEL_inv h
    simp only [E.cellsL, RepE] at hr ⊢
    have hx := toE_length h1
    obtain ⟨vs, r, g⟩ := hr.1.values
    refine ⟨RepC_of_list _ _ _ (toE_rep e y h1 vs r) g, ?_⟩
    rw [E.cells_length, ← hx]
    exact toEL_rep es ys h2 ad _ hr.2
end
theorem toE_weak {c : List AV} {e : E} (h : toE c = some e) : Weak (.agg c) e.av := fun G V hr => by
  simp only [Rep] at hr ⊢
  obtain ⟨cs, h1, h2⟩ := hr
  refine ⟨cs, h1, ?_⟩
  rw [← E.cells_eq]
  exact toE_rep e c h _ h2
/-- An expression, as an argument. -/
def dE : Dec E where
  dec := fun a => match a with
    | .agg c => toE c
    | _ => none
  enc := E.av
  ok := fun a x h => by
    split at h
    · exact toE_weak h
    · cases h
@[go_sem] theorem dE_at {c : List AV} : dE.dec (.agg c) = toE c := rfl
end Go.Proofs.YtkdendaohlnlcaaGreatDoor.Av

/- What the functions of the reference of layer 2 answer. No condition. -/
namespace Go.Proofs.YtkdendaohlnlcaaGreatDoor.Av
set_option linter.unusedVariables false
set_option linter.unusedSimpArgs false
set_option maxRecDepth 4000
set_option maxHeartbeats 1000000
variable {w0 : Base} {k : List Nat} {H : Hp}

mutual
def E.sz : E → Nat
  | .mk _ _ ks => 1 + E.szL ks
def E.szL : List E → Nat
  | [] => 0
  | e :: es => e.sz + E.szL es
end
mutual
def E.dp : E → Nat
  | .mk _ _ ks => 1 + E.dpL ks
def E.dpL : List E → Nat
  | [] => 0
  | e :: es => max e.dp (E.dpL es)
end
def E.term (e : E) : Bool := e.kind == 1 || e.kind == 2

mutual
def E.ok : E → Prop
  | .mk _ _ ks => (ks.length : Int) ≤ 9223372036854775807 ∧ E.okL ks
def E.okL : List E → Prop
  | [] => True
  | e :: es => e.ok ∧ E.okL es
end
theorem E.okL_mem : ∀ (l : List E), E.okL l → ∀ x ∈ l, x.ok
  | e :: es, h, x, hx => by
    simp only [E.okL] at h
    rcases List.mem_cons.1 hx with rfl | hx
    · exact h.1
    · exact E.okL_mem es h.2 x hx
theorem E.ok_len {e : E} (h : e.ok) : (e.kids.length : Int) ≤ 9223372036854775807 := by cases e; exact h.1
theorem E.ok_kid {e : E} (h : e.ok) {i : Nat} {x : E} (hx : e.kids[i]? = some x) : x.ok := by
  cases e
  exact E.okL_mem _ h.2 x (List.mem_of_getElem? hx)
/-- What a kind asks: the greatest number, how many kids at least and at most, and whether these are terms. -/
def E.want (k : Int) : Option (Int × Nat × Nat × Bool) :=
  if k = 1 then some (63, 0, 0, true) else if k = 2 ∨ k = 3 then some (99, 0, 4, true) else if k = 4 then some (0, 2, 2, true) else if k = 5 then some (0, 1, 1, false)
  else if k = 6 ∨ k = 8 ∨ k = 9 then some (0, 2, 2, false) else if k = 7 ∨ k = 10 then some (63, 1, 1, false) else none
/-- Is the node by itself as it may be? -/
def E.loc (e : E) : Bool := match E.want e.kind with
  | some (mx, l, m, t) => decide (0 ≤ e.id) && decide (e.id ≤ mx) && decide (l ≤ e.kids.length) && decide (e.kids.length ≤ m) && e.kids.all fun x => x.term == t
  | none => false
mutual
def E.sh : E → Bool
  | .mk k i ks => E.loc (.mk k i ks) && E.shL ks
def E.shL : List E → Bool
  | [] => true
  | e :: es => e.sh && E.shL es
end
theorem E.shL_eq : ∀ l : List E, E.shL l = l.all E.sh
  | [] => rfl
  | e :: es => by simp [E.shL, E.shL_eq es]
theorem E.sh_eq (e : E) : e.sh = (e.loc && e.kids.all E.sh) := by cases e; simp [E.sh, E.kids, E.shL_eq]
theorem all_and (p q : E → Bool) : ∀ l : List E, (l.all fun x => p x && q x) = (l.all p && l.all q)
  | [] => rfl
  | e :: es => by
    simp only [List.all_cons, all_and p q es]
    cases p e <;> cases q e <;> cases es.all p <;> cases es.all q <;> rfl
theorem E.sh_all (e : E) : e.sh = match E.want e.kind with
    | some (mx, l, m, t) => decide (0 ≤ e.id) && decide (e.id ≤ mx) && (decide ((l : Int) ≤ e.kids.length) && decide ((e.kids.length : Int) ≤ m) && e.kids.all fun x => x.term == t && x.sh)
    | none => false := by
  rw [E.sh_eq]
  unfold E.loc
  split
  · rw [all_and]
    simp only [Int.ofNat_le, Bool.and_assoc]
  · rfl
theorem E.sz_eq (e : E) : e.sz = 1 + E.szL e.kids := by cases e; simp [E.sz, E.kids]
theorem E.dp_eq (e : E) : e.dp = 1 + E.dpL e.kids := by cases e; simp [E.dp, E.kids]
theorem E.sz_pos (e : E) : 1 ≤ e.sz := by rw [E.sz_eq]; omega
theorem E.dp_pos (e : E) : 1 ≤ e.dp := by rw [E.dp_eq]; omega

theorem E.szL_take : ∀ (l : List E) (i : Nat) (x : E), l[i]? = some x → E.szL (l.take (i + 1)) = E.szL (l.take i) + x.sz
  | [], i, x, h => by simp at h
  | y :: l, 0, x, h => by simp at h; subst h; simp [E.szL]
  | y :: l, i + 1, x, h => by
    simp only [List.getElem?_cons_succ] at h
    simp only [List.take_succ_cons, E.szL, E.szL_take l i x h]
    omega
theorem E.dpL_take : ∀ (l : List E) (i : Nat) (x : E), l[i]? = some x → E.dpL (l.take (i + 1)) = max (E.dpL (l.take i)) x.dp
  | [], i, x, h => by simp at h
  | y :: l, 0, x, h => by simp at h; subst h; simp [E.dpL]
  | y :: l, i + 1, x, h => by
    simp only [List.getElem?_cons_succ] at h
    simp only [List.take_succ_cons, E.dpL, E.dpL_take l i x h]
    omega
theorem E.dpL_le : ∀ (l : List E) (i : Nat), E.dpL (l.take i) ≤ E.dpL l
  | l, 0 => by simp [E.dpL]
  | [], i + 1 => by simp
  | y :: l, i + 1 => by
    have := E.dpL_le l i
    simp only [List.take_succ_cons, E.dpL]
    omega
theorem E.szL_ge : ∀ (l : List E) (i : Nat), i ≤ l.length → i ≤ E.szL (l.take i)
  | l, 0, h => by omega
  | [], i + 1, h => by simp at h
  | y :: l, i + 1, h => by
    simp only [List.length_cons] at h
    have := E.szL_ge l i (by omega)
    have := y.sz_pos
    simp only [List.take_succ_cons, E.szL]
    omega
theorem E.szL_le : ∀ (l : List E) (i : Nat), E.szL (l.take i) ≤ E.szL l
  | l, 0 => by simp [E.szL]
  | [], i + 1 => by simp
  | y :: l, i + 1 => by
    have := E.szL_le l i
    simp only [List.take_succ_cons, E.szL]
    omega
theorem E.kid_sz {e : E} {i : Nat} {x : E} (hx : e.kids[i]? = some x) : x.sz < e.sz := by
  have := E.szL_take e.kids i x hx
  have := E.szL_le e.kids (i + 1)
  have := e.sz_eq
  omega
theorem sfx2 (a b : Nat) (k : List Nat) : k <:+ a :: b :: k := ⟨[a, b], rfl⟩
theorem sfx1 (a : Nat) (k : List Nat) : k <:+ a :: k := ⟨[a], rfl⟩
attribute [go_sem] Value.oneCell'
theorem E.kid (e : E) {i : Nat} (h : i < e.kids.length) : ∃ x, e.kids[i]? = some x ∧ (e.kids.map E.cells).getD i [] = [.int .i64 x.kind, .int .i64 x.id, .list .none (x.kids.map E.cells)] :=
  ⟨e.kids[i], by simp [h], by rw [← E.cells_eq]; simp [List.getD_eq_getElem?_getD, h]⟩

theorem term_call (e : E) : CallAt Tryz.prog w0 k 135 [e.av] H H (.bool e.term) := by
  refine callAt tabOk specOk_none mixed Tryz.func135 rfl rfl Tryz.results135 Tryz.ntmps135 (by simp) [] ?_
  intro hfr t hl ht
  simp only [At, Nat.reduceAdd, List.cons_append, List.nil_append] at ht
  simp (config := {contextual := true, maxSteps := 5000000}) only [go_sem, false_and, Nat.reduceAdd, Nat.reduceLT, Nat.reduceBEq, Nat.reduceSub, Nat.reduceMul, Nat.reduceLeDiff, Int.reduceToNat, Nat.reduceEqDiff, Nat.reduceMod, ht, hl]
  simp +contextual [E.term] <;> grind

def specSz (N : Nat) : Spec := Spec.no.add 136 (sp2 dE dI (fun e m => 1 ≤ m ∧ m ≤ 1001 ∧ e.sz < N) fun e m => .int .i64 (min (e.sz : Int) m))
theorem szUp_step (N : Nat) (hS : SpecOk Tryz.prog w0 (specSz N)) (e : E) (m : Int) (h1 : 1 ≤ m) (h2 : m ≤ 1001) (h3 : e.sz < N + 1) : CallAt Tryz.prog w0 k 136 [e.av, .int .i64 m] H H (.int .i64 (min (e.sz : Int) m)) := by
  refine callAt tabOk hS mixed Tryz.func136 rfl rfl Tryz.results136 Tryz.ntmps136 (by simp) [] ?_
  intro hfr t hl ht
  simp only [At, Nat.reduceAdd, List.cons_append, List.nil_append] at ht
  simp (config := {contextual := true, maxSteps := 5000000}) only [go_sem, false_and, Nat.reduceAdd, Nat.reduceLT, Nat.reduceBEq, Nat.reduceSub, Nat.reduceMul, Nat.reduceLeDiff, Int.reduceToNat, Nat.reduceEqDiff, Nat.reduceMod, ht, hl]
  refine loop_inv tabOk hS mixed [] (fun j x => ∃ i : Nat, x.tmps.length = 32 ∧ x.tmps.getD 1 AV.undef = .int .i64 m ∧ x.tmps.getD 5 AV.undef = .int .i64 (min (1 + E.szL (e.kids.take i) : Nat) m) ∧
    x.tmps.getD 9 AV.undef = .list .none (e.kids.map E.cells) ∧ x.tmps.getD 10 AV.undef = .int .i64 e.kids.length ∧ x.tmps.getD 11 AV.undef = .int .i64 i ∧ H.Le x.H ∧ i + j = e.kids.length) e.kids.length ⟨0, ?_⟩ ?_
  · simp (config := {contextual := true, maxSteps := 5000000}) only [go_sem, false_and, Nat.reduceAdd, Nat.reduceLT, Nat.reduceBEq, Nat.reduceSub, Nat.reduceMul, Nat.reduceLeDiff, Int.reduceToNat, Nat.reduceEqDiff, Nat.reduceMod, ht, hl]
    simp [E.szL]
    omega
  · rintro j ⟨t, n, H'⟩ ⟨i, hl, h1', h5, h9, h10, h11, hH, hij⟩
    simp only at hl h1' h5 h9 h10 h11 hH
    by_cases hi : i < e.kids.length
    · have hd : decide ((i : Int) < (e.kids.length : Int)) = true := by simp [hi]
      obtain ⟨x, hx, he⟩ := E.kid e hi
      simp (config := {contextual := true, maxSteps := 5000000}) only [go_sem, false_and, Nat.reduceAdd, Nat.reduceLT, Nat.reduceBEq, Nat.reduceSub, Nat.reduceMul, Nat.reduceLeDiff, Int.reduceToNat, Nat.reduceEqDiff, Nat.reduceMod, he, toE_at, specSz, h1', h5, h9, h10, h11, hl, hd]
      have hn : H ⟨3, 2 :: (n + 1) :: k, 25⟩ = none := hfr _ (sfx2 _ _ _)
      have hle : ∀ a, H.Le (H'.upd ⟨3, 2 :: (n + 1) :: k, 25⟩ a) := fun a => Hp.le_upd hH hn
      have e1 := E.szL_take e.kids i x hx
      have e2 := E.szL_ge e.kids i (by omega)
      have e3 := E.szL_le e.kids (i + 1)
      have e4 := e.sz_eq
      have e5 := x.sz_pos
      refine ⟨⟨by omega, by omega⟩, fun hc => ⟨?_, hle _⟩, fun hc => ⟨⟨?_, ?_, ?_⟩, j - 1, by omega, i + 1, ?_, ?_, hle _, by omega⟩⟩
      all_goals simp only [decide_eq_true_eq, decide_eq_false_iff_not] at hc
      · omega
      · rw [wrap_i64] <;> omega
      · rw [wrap_i64] <;> omega
      · omega
      · rw [wrap_i64 (n := m - _) (by omega) (by omega), wrap_i64] <;> omega
      · rw [wrap_i64] <;> omega
    · have hd : decide ((i : Int) < (e.kids.length : Int)) = false := by simp; omega
      simp (config := {contextual := true, maxSteps := 5000000}) only [go_sem, false_and, Nat.reduceAdd, Nat.reduceLT, Nat.reduceBEq, Nat.reduceSub, Nat.reduceMul, Nat.reduceLeDiff, Int.reduceToNat, Nat.reduceEqDiff, Nat.reduceMod, h1', h5, h9, h10, h11, hl, hd]
      have e4 := e.sz_eq
      have e6 : e.kids.take i = e.kids := List.take_of_length_le (by omega)
      rw [e6]
      refine ⟨fun hc => ⟨?_, hH⟩, fun hc => ⟨?_, hH⟩⟩ <;> simp only [decide_eq_true_eq, decide_eq_false_iff_not] at hc <;> omega
theorem specSz_ok : ∀ N, SpecOk Tryz.prog w0 (specSz N)
  | 0 => Spec.no_ok.add (sp2_ok fun e m h => by omega)
  | N + 1 => Spec.no_ok.add (sp2_ok fun e m h k H => szUp_step N (specSz_ok N) e m h.1 h.2.1 h.2.2)

def specDp (N : Nat) : Spec := Spec.no.add 137 (sp2 dE dI (fun e m => 1 ≤ m ∧ m ≤ 101 ∧ e.ok ∧ e.sz < N) fun e m => .int .i64 (min (e.dp : Int) m))
theorem dpUp_step (N : Nat) (hS : SpecOk Tryz.prog w0 (specDp N)) (e : E) (m : Int) (h1 : 1 ≤ m) (h2 : m ≤ 101) (hok : e.ok) (h3 : e.sz < N + 1) : CallAt Tryz.prog w0 k 137 [e.av, .int .i64 m] H H (.int .i64 (min (e.dp : Int) m)) := by
  refine callAt tabOk hS mixed Tryz.func137 rfl rfl Tryz.results137 Tryz.ntmps137 (by simp) [] ?_
  intro hfr t hl ht
  simp only [At, Nat.reduceAdd, List.cons_append, List.nil_append] at ht
  simp (config := {contextual := true, maxSteps := 5000000}) only [go_sem, false_and, Nat.reduceAdd, Nat.reduceLT, Nat.reduceBEq, Nat.reduceSub, Nat.reduceMul, Nat.reduceLeDiff, Int.reduceToNat, Nat.reduceEqDiff, Nat.reduceMod, ht, hl]
  have e4 := e.dp_eq
  refine ⟨fun hc => ?_, fun hc => ?_⟩ <;> simp only [decide_eq_true_eq, decide_eq_false_iff_not] at hc
  · omega
  refine loop_inv tabOk hS mixed [] (fun j x => ∃ i : Nat, x.tmps.length = 35 ∧ x.tmps.getD 1 AV.undef = .int .i64 m ∧ x.tmps.getD 5 AV.undef = .int .i64 (E.dpL (e.kids.take i) : Nat) ∧ (E.dpL (e.kids.take i) : Int) < m - 1 ∧
    x.tmps.getD 13 AV.undef = .list .none (e.kids.map E.cells) ∧ x.tmps.getD 14 AV.undef = .int .i64 e.kids.length ∧ x.tmps.getD 15 AV.undef = .int .i64 i ∧ H.Le x.H ∧ i + j = e.kids.length) e.kids.length ⟨0, ?_⟩ ?_
  · simp (config := {contextual := true, maxSteps := 5000000}) only [go_sem, false_and, Nat.reduceAdd, Nat.reduceLT, Nat.reduceBEq, Nat.reduceSub, Nat.reduceMul, Nat.reduceLeDiff, Int.reduceToNat, Nat.reduceEqDiff, Nat.reduceMod, ht, hl]
    simp [E.dpL]
    omega
  · rintro j ⟨t, n, H'⟩ ⟨i, hl, h1', h5, hlt, h13, h14, h15, hH, hij⟩
    simp only at hl h1' h5 h13 h14 h15 hH
    by_cases hi : i < e.kids.length
    · have hd : decide ((i : Int) < (e.kids.length : Int)) = true := by simp [hi]
      have hw : IntKind.i64.wrap (m - 1) = m - 1 := wrap_i64 (by omega) (by omega)
      have hw2 : IntKind.i64.wrap ((i : Int) + 1) = ((i + 1 : Nat) : Int) := by
        have := E.ok_len hok
        rw [wrap_i64] <;> omega
      obtain ⟨x, hx, he⟩ := E.kid e hi
      simp (config := {contextual := true, maxSteps := 5000000}) only [go_sem, false_and, Nat.reduceAdd, Nat.reduceLT, Nat.reduceBEq, Nat.reduceSub, Nat.reduceMul, Nat.reduceLeDiff, Int.reduceToNat, Nat.reduceEqDiff, Nat.reduceMod, he, toE_at, specDp, h1', h5, h13, h14, h15, hl, hd, hw, hw2]
      have hn : H ⟨3, 2 :: (n + 1) :: k, 25⟩ = none := hfr _ (sfx2 _ _ _)
      have hle : ∀ a, H.Le (H'.upd ⟨3, 2 :: (n + 1) :: k, 25⟩ a) := fun a => Hp.le_upd hH hn
      have e1 := E.dpL_take e.kids i x hx
      have e3 := E.dpL_le e.kids (i + 1)
      have e5 := x.dp_pos
      have e6 := E.kid_sz hx
      refine ⟨⟨by omega, by omega⟩, ⟨by omega, by omega, E.ok_kid hok hx, by omega⟩, fun a => ⟨fun b => ⟨?_, hle _⟩, fun b => ⟨j - 1, by omega, i + 1, ?_, ?_, rfl, hle _, by omega⟩⟩, fun a => ⟨fun b => ⟨?_, hle _⟩, fun b => ⟨j - 1, by omega, i + 1, ?_, ?_, rfl, hle _, by omega⟩⟩⟩
      all_goals
        simp only [decide_eq_true_eq, decide_eq_false_iff_not] at a b
        omega
    · have hd : decide ((i : Int) < (e.kids.length : Int)) = false := by simp; omega
      simp (config := {contextual := true, maxSteps := 5000000}) only [go_sem, false_and, Nat.reduceAdd, Nat.reduceLT, Nat.reduceBEq, Nat.reduceSub, Nat.reduceMul, Nat.reduceLeDiff, Int.reduceToNat, Nat.reduceEqDiff, Nat.reduceMod, h1', h5, h13, h14, h15, hl, hd]
      have e6 : e.kids.take i = e.kids := List.take_of_length_le (by omega)
      rw [e6] at hlt ⊢
      refine ⟨?_, hH⟩
      rw [wrap_i64] <;> omega
theorem specDp_ok : ∀ N, SpecOk Tryz.prog w0 (specDp N)
  | 0 => Spec.no_ok.add (sp2_ok fun e m h => by omega)
  | N + 1 => Spec.no_ok.add (sp2_ok fun e m h k H => dpUp_step N (specDp_ok N) e m h.1 h.2.1 h.2.2.1 h.2.2.2)

def specSh (N M : Nat) : Spec :=
  ((Spec.no.add 96 (sp1 dE (fun e => e.sz < N) fun e => .bool e.sh)).add 138 (sp4 dE dI dI dB (fun e _ m _ => m ≤ 99 ∧ e.sz < M) fun e l m t => .bool (decide (l ≤ e.kids.length) && decide (e.kids.length ≤ m) && e.kids.all fun x => x.term == t && x.sh))).add
    135 (sp1 dE (fun _ => True) fun e => .bool e.term)
theorem kids_step (N M : Nat) (hS : SpecOk Tryz.prog w0 (specSh N M)) (e : E) (l m : Int) (ts : Bool) (h1 : m ≤ 99) (h3 : e.sz < N + 1) :
    CallAt Tryz.prog w0 k 138 [e.av, .int .i64 l, .int .i64 m, .bool ts] H H (.bool (decide (l ≤ e.kids.length) && decide (e.kids.length ≤ m) && e.kids.all fun x => x.term == ts && x.sh)) := by
  refine callAt tabOk hS mixed Tryz.func138 rfl rfl Tryz.results138 Tryz.ntmps138 (by simp) [] ?_
  intro hfr t hl ht
  simp only [At, Nat.reduceAdd, List.cons_append, List.nil_append] at ht
  simp (config := {contextual := true, maxSteps := 5000000}) only [go_sem, false_and, Nat.reduceAdd, Nat.reduceLT, Nat.reduceBEq, Nat.reduceSub, Nat.reduceMul, Nat.reduceLeDiff, Int.reduceToNat, Nat.reduceEqDiff, Nat.reduceMod, ht, hl]
  refine ⟨fun a => ⟨fun b => ?_, fun b => ?_⟩, fun a => ?_⟩ <;> simp only [decide_eq_true_eq, decide_eq_false_iff_not] at a
  · simp only [decide_eq_true_eq] at b
    have : decide ((e.kids.length : Int) ≤ m) = false := by simp; omega
    simp [this]
  · simp only [decide_eq_false_iff_not] at b
    have d1 : decide (l ≤ (e.kids.length : Int)) = true := by simp; omega
    have d2 : decide ((e.kids.length : Int) ≤ m) = true := by simp; omega
    simp only [d1, d2, Bool.true_and]
    refine loop_inv tabOk hS mixed [] (fun j x => ∃ i : Nat, x.tmps.length = 40 ∧ x.tmps.getD 3 AV.undef = .bool ts ∧ (∀ i' x, i' < i → e.kids[i']? = some x → (x.term == ts && x.sh) = true) ∧
      x.tmps.getD 24 AV.undef = .list .none (e.kids.map E.cells) ∧ x.tmps.getD 25 AV.undef = .int .i64 e.kids.length ∧ x.tmps.getD 26 AV.undef = .int .i64 i ∧ H.Le x.H ∧ i + j = e.kids.length) e.kids.length ⟨0, ?_⟩ ?_
    · simp (config := {contextual := true, maxSteps := 5000000}) only [go_sem, false_and, Nat.reduceAdd, Nat.reduceLT, Nat.reduceBEq, Nat.reduceSub, Nat.reduceMul, Nat.reduceLeDiff, Int.reduceToNat, Nat.reduceEqDiff, Nat.reduceMod, ht, hl]
      simp
    · rintro j ⟨t, n, H'⟩ ⟨i, hl, h3', hall, h24, h25, h26, hH, hij⟩
      simp only at hl h3' h24 h25 h26 hH
      by_cases hi : i < e.kids.length
      · have hd : decide ((i : Int) < (e.kids.length : Int)) = true := by simp [hi]
        have hw2 : IntKind.i64.wrap ((i : Int) + 1) = ((i + 1 : Nat) : Int) := by rw [wrap_i64] <;> omega
        obtain ⟨x, hx, he⟩ := E.kid e hi
        simp (config := {contextual := true, maxSteps := 5000000}) only [go_sem, false_and, Nat.reduceAdd, Nat.reduceLT, Nat.reduceBEq, Nat.reduceSub, Nat.reduceMul, Nat.reduceLeDiff, Int.reduceToNat, Nat.reduceEqDiff, Nat.reduceMod, he, toE_at, specSh, h3', h24, h25, h26, hl, hd, hw2]
        have hn : H ⟨3, 2 :: (n + 1) :: k, 25⟩ = none := hfr _ (sfx2 _ _ _)
        have hle : ∀ a, H.Le (H'.upd ⟨3, 2 :: (n + 1) :: k, 25⟩ a) := fun a => Hp.le_upd hH hn
        have e6 := E.kid_sz hx
        have bad : (x.term == ts && x.sh) = false → (false = e.kids.all fun x => x.term == ts && x.sh) := fun h => by
          symm
          rw [List.all_eq_false]
          exact ⟨x, List.mem_of_getElem? hx, by simp [h]⟩
        refine ⟨⟨by omega, by omega⟩, fun a => ⟨by omega, fun b => ⟨bad (by simp_all), hle _⟩, fun b => ⟨j - 1, by omega, i + 1, fun i' y hi' hy => ?_, rfl, hle _, by omega⟩⟩, fun a => ⟨bad (by simp_all), hle _⟩⟩
        by_cases e : i' = i
        · subst e
          rw [hx] at hy
          cases hy
          simp_all
        · exact hall i' y (by omega) hy
      · have hd : decide ((i : Int) < (e.kids.length : Int)) = false := by simp; omega
        simp (config := {contextual := true, maxSteps := 5000000}) only [go_sem, false_and, Nat.reduceAdd, Nat.reduceLT, Nat.reduceBEq, Nat.reduceSub, Nat.reduceMul, Nat.reduceLeDiff, Int.reduceToNat, Nat.reduceEqDiff, Nat.reduceMod, h3', h24, h25, h26, hl, hd]
        refine ⟨?_, hH⟩
        symm
        rw [List.all_eq_true]
        intro x hx
        obtain ⟨i', hi', hx'⟩ := List.getElem_of_mem hx
        exact hall i' x (by omega) (by rw [← hx']; simp)
  · have : decide (l ≤ (e.kids.length : Int)) = false := by simp; omega
    simp [this]
theorem shaped_step (N M : Nat) (hS : SpecOk Tryz.prog w0 (specSh N M)) (e : E) (h3 : e.sz < M) : CallAt Tryz.prog w0 k 96 [e.av] H H (.bool e.sh) := by
  refine callAt tabOk hS mixed Tryz.func96 rfl rfl Tryz.results96 Tryz.ntmps96 (by simp) [] ?_
  intro hfr t hl ht
  simp only [At, Nat.reduceAdd, List.cons_append, List.nil_append] at ht
  simp (config := {contextual := true, maxSteps := 5000000}) only [go_sem, false_and, Nat.reduceAdd, Nat.reduceLT, Nat.reduceBEq, Nat.reduceSub, Nat.reduceMul, Nat.reduceLeDiff, Int.reduceToNat, Nat.reduceEqDiff, Nat.reduceMod, ht, hl, toE_at, specSh]
  have hneg : e.id < 0 → e.sh = false := fun h => by
    have d : decide (0 ≤ e.id) = false := by simp; omega
    rw [E.sh_all, d]
    split <;> simp
  refine ⟨fun a => (hneg (by simpa using a)).symm, ?_⟩
  rw [E.sh_all]
  simp only [E.want]
  (repeat' (first | apply And.intro | intro _)) <;> simp_all <;> omega
theorem specSh_ok : ∀ N, SpecOk Tryz.prog w0 (specSh N N)
  | 0 => ((Spec.no_ok.add (sp1_ok fun e h => by omega)).add (sp4_ok fun e l m t h => by omega)).add (sp1_ok fun e _ k H => term_call e)
  | N + 1 => by
    have hk : AnsOk Tryz.prog w0 138 _ := sp4_ok (A := dE) (B := dI) (C := dI) (D := dB) (φ := fun e _ m _ => m ≤ 99 ∧ e.sz < N + 1) fun e l m t h k H => kids_step N N (specSh_ok N) e l m t h.1 h.2
    have h0 : AnsOk Tryz.prog w0 96 _ := sp1_ok (A := dE) (φ := fun e => e.sz < N) (v := fun e => .bool e.sh) fun e h k H => (specSh_ok N) _ [e.av] (e.sz < N) (.bool e.sh) (by simp (config := {contextual := true, maxSteps := 5000000}) only [go_sem, false_and, Nat.reduceAdd, Nat.reduceLT, Nat.reduceBEq, Nat.reduceSub, Nat.reduceMul, Nat.reduceLeDiff, Int.reduceToNat, Nat.reduceEqDiff, Nat.reduceMod, specSh, toE_at]) h k H
    have h1 : SpecOk Tryz.prog w0 (specSh N (N + 1)) := ((Spec.no_ok.add h0).add hk).add (sp1_ok fun e _ k H => term_call e)
    exact ((Spec.no_ok.add (sp1_ok fun e h k H => shaped_step N (N + 1) h1 e h)).add hk).add (sp1_ok fun e _ k H => term_call e)

/-- The functions of this layer, with what they need. -/
def E.right (e : E) : Int := if 1000 < e.sz then 20 else if 100 < e.dp then 21 else if e.sh then 0 else 22
def E.wantF (e : E) : Int := if e.right = 0 then (if e.term then 40 else 0) else e.right
def E.written (e : E) : Int := if e.wantF = 0 then (if 300 < e.sz then 20 else if 30 < e.dp then 21 else 0) else e.wantF
def spec02a : Spec := ((Spec.no.add 136 (sp2 dE dI (fun e m => 1 ≤ m ∧ m ≤ 1001) fun e m => .int .i64 (min (e.sz : Int) m))).add
  137 (sp2 dE dI (fun e m => 1 ≤ m ∧ m ≤ 101 ∧ e.ok) fun e m => .int .i64 (min (e.dp : Int) m))).add
  96 (sp1 dE (fun _ => True) fun e => .bool e.sh)
theorem spec02a_ok : SpecOk Tryz.prog w0 spec02a :=
  ((Spec.no_ok.add (sp2_ok fun e m h k H => szUp_step e.sz (specSz_ok _) e m h.1 h.2 (Nat.lt_succ_self _))).add (sp2_ok fun e m h k H => dpUp_step e.sz (specDp_ok _) e m h.1 h.2.1 h.2.2 (Nat.lt_succ_self _))).add
    (sp1_ok fun e _ k H => specSh_ok (e.sz + 1) _ [e.av] (e.sz < e.sz + 1) (.bool e.sh) (by simp (config := {contextual := true, maxSteps := 5000000}) only [go_sem, false_and, Nat.reduceAdd, Nat.reduceLT, Nat.reduceBEq, Nat.reduceSub, Nat.reduceMul, Nat.reduceLeDiff, Int.reduceToNat, Nat.reduceEqDiff, Nat.reduceMod, specSh, toE_at]) (Nat.lt_succ_self _) k H)
theorem size_call (e : E) : CallAt Tryz.prog w0 k 88 [e.av] H H (.int .i64 (min (e.sz : Int) 1001)) := by
  refine callAt tabOk spec02a_ok mixed Tryz.func88 rfl rfl Tryz.results88 Tryz.ntmps88 (by simp) [] ?_
  intro hfr t hl ht
  simp only [At, Nat.reduceAdd, List.cons_append, List.nil_append] at ht
  simp (config := {contextual := true, maxSteps := 5000000}) only [go_sem, false_and, Nat.reduceAdd, Nat.reduceLT, Nat.reduceBEq, Nat.reduceSub, Nat.reduceMul, Nat.reduceLeDiff, Int.reduceToNat, Nat.reduceEqDiff, Nat.reduceMod, ht, hl, spec02a]
  simp
theorem depth_call (e : E) (hok : e.ok) : CallAt Tryz.prog w0 k 89 [e.av] H H (.int .i64 (min (e.dp : Int) 101)) := by
  refine callAt tabOk spec02a_ok mixed Tryz.func89 rfl rfl Tryz.results89 Tryz.ntmps89 (by simp) [] ?_
  intro hfr t hl ht
  simp only [At, Nat.reduceAdd, List.cons_append, List.nil_append] at ht
  simp (config := {contextual := true, maxSteps := 5000000}) only [go_sem, false_and, Nat.reduceAdd, Nat.reduceLT, Nat.reduceBEq, Nat.reduceSub, Nat.reduceMul, Nat.reduceLeDiff, Int.reduceToNat, Nat.reduceEqDiff, Nat.reduceMod, ht, hl, spec02a]
  simp [hok]
def spec02b : Spec := ((spec02a.add 88 (sp1 dE (fun _ => True) fun e => .int .i64 (min (e.sz : Int) 1001))).add
  89 (sp1 dE (fun e => e.ok) fun e => .int .i64 (min (e.dp : Int) 101))).add
  135 (sp1 dE (fun _ => True) fun e => .bool e.term)
theorem spec02b_ok : SpecOk Tryz.prog w0 spec02b := ((spec02a_ok.add (sp1_ok fun e _ k H => size_call e)).add (sp1_ok fun e h k H => depth_call e h)).add (sp1_ok fun e _ k H => term_call e)
theorem right02_call (e : E) (hok : e.ok) : CallAt Tryz.prog w0 k 62 [e.av] H H (.int .i64 e.right) := by
  refine callAt tabOk spec02b_ok mixed Tryz.func62 rfl rfl Tryz.results62 Tryz.ntmps62 (by simp) [] ?_
  intro hfr t hl ht
  simp only [At, Nat.reduceAdd, List.cons_append, List.nil_append] at ht
  simp (config := {contextual := true, maxSteps := 5000000}) only [go_sem, false_and, Nat.reduceAdd, Nat.reduceLT, Nat.reduceBEq, Nat.reduceSub, Nat.reduceMul, Nat.reduceLeDiff, Int.reduceToNat, Nat.reduceEqDiff, Nat.reduceMod, ht, hl, spec02b, spec02a]
  unfold E.right
  (repeat' (first | apply And.intro | intro _)) <;> simp_all <;> omega
end Go.Proofs.YtkdendaohlnlcaaGreatDoor.Av

/- Loops over functions: what the loop does, out of what its body does of each element and of a function that tells the elements. No condition. -/
namespace Go.Proofs.YtkdendaohlnlcaaGreatDoor.Av
set_option linter.unusedVariables false
set_option linter.unusedSimpArgs false
open Go.RowKit

def setPs (t : List AV) : List Tmp → List AV → List AV
  | p :: ps, x :: xs => setPs (t.set p x) ps xs
  | _, _ => t
theorem rep_setPs {G : Gh} : ∀ (ps : List Tmp) (xs : List AV) (vs : List Value) (t : List AV) (tc : Array Value), RepL G xs vs → RepL G t tc.toList → RepL G (setPs t ps xs) ((ps.zip vs).foldl (fun (t : Array Value) (p, v) => t.setIfInBounds p v) tc).toList
  | [], xs, vs, t, tc, _, h => by simpa [setPs] using h
  | p :: ps, [], vs, t, tc, hx, h => by simp only [RepL] at hx; subst hx; simpa [setPs] using h
  | p :: ps, x :: xs, vs, t, tc, hx, h => by
    simp only [RepL] at hx
    obtain ⟨u, us, rfl, h1, h2⟩ := hx
    simp only [List.zip_cons_cons, List.foldl_cons, setPs]
    refine rep_setPs ps xs us _ _ h2 ?_
    simpa using h.set h1 p

/-- How many elements are told until a round says no. -/
def stops (b : Nat → Bool) : Nat → Nat → Nat
  | j, 0 => j
  | j, n + 1 => if b j then stops b (j + 1) n else j + 1
theorem stops_all (b : Nat → Bool) : ∀ (n j : Nat), (∀ i, j ≤ i → i < j + n → b i = true) → stops b j n = j + n
  | 0, j, _ => rfl
  | n + 1, j, h => by
    rw [stops, if_pos (h j (Nat.le_refl _) (by omega)), stops_all b n (j + 1) fun i h1 h2 => h i (by omega) (by omega)]
    omega
theorem stops_at (b : Nat → Bool) (m : Nat) (hm : b m = false) : ∀ (n j : Nat), j ≤ m → m < j + n → (∀ i, j ≤ i → i < m → b i = true) → stops b j n = m + 1
  | 0, j, h1, h2, _ => by omega
  | n + 1, j, h1, h2, h => by
    by_cases e : j = m
    · subst e
      rw [stops, if_neg (by simp [hm])]
    · rw [stops, if_pos (h j (Nat.le_refl _) (by omega)), stops_at b m hm n (j + 1) (by omega) (by omega) fun i a c => h i (by omega) c]

/-- A function that tells these elements, one by one, until it is told no. -/
def Iter (P : Program) (gf : FuncId) (caps : List AV) (xs : List (List AV)) : Prop :=
  ∀ (w0 : Base) (l : Nat) (k : List Nat) (Hs : Nat → Hp) (b : Nat → Bool),
    (∀ j x, xs[j]? = some x → (∀ i, i < j → b i = true) → ∀ key, k <:+ key → YieldIn P w0 key l x (Hs j) (Hs (j + 1)) (.bool (b j))) →
    (∀ j i, k <:+ i.key → Hs j i = none) →
    ∃ v, BodyAt P w0 k gf ([.clo (.yield l) [] []] ++ caps) (Hs 0) (Hs (stops b 0 xs.length)) v

def roundR (o : Option AEx) (H' : Hp) : AEx → FS → Prop := fun x s => x = o.getD .normal ∧ H'.Le s.H
@[go_sem] theorem roundR_at {o : Option AEx} {H' : Hp} {x : AEx} {s : FS} : roundR o H' x s = (x = o.getD .normal ∧ H'.Le s.H) := rfl

def AEx.code : AEx → Code
  | .normal => .skip
  | .exit id => .exit id
  | .ret => .ret
  | .panic _ => .skip

section
variable {P : Program} {w0 : Base}

/-- What is known of one more block that is no cells. -/
theorem Sim.pin {G : Gh} {H : Hp} {w : World} (h : Sim w0 G H w) {D : Nat} {o : Obj} {L : List (Option Id × Obj)} (hD : w.heap[D]? = some o) (hn : ∀ cs T f, o ≠ .cells cs T f) (hb : w0.heap.size ≤ D) (hρ : w0.G.ρ D = none ∨ w0.G.ρ D = some L) (hL : ∀ x ∈ L, pinned G H D o x) :
    Sim w0 { G with ρ := fun b => if b = D then some L else G.ρ b } H w := by
  refine ⟨h.c, fun i b e => ?_, h.d, h.t, h.inj, h.tinj, h.vt, h.below, ⟨h.g.C, h.g.σ, h.g.τ, fun b o e => ?_⟩, fun b L' e => ?_⟩
  · obtain ⟨h1, cs, T, h2, h3, h4, h5⟩ := h.v i b e
    exact ⟨h1, cs, T, h2, h3, h4, fun avs ha => rep_noρ (h5 avs ha)⟩
  · simp only
    split
    · rename_i hbd
      subst hbd
      rcases hρ with hρ | hρ
      · rw [hρ] at e; cases e
      · rw [hρ] at e; exact e
    · exact h.g.ρ b o e
  · simp only at e
    split at e
    · rename_i hbd
      subst hbd
      cases e
      exact ⟨hb, o, hD, hn, hL⟩
    · exact h.r b L' e

/-- A token that stands for a block's state. -/
theorem Sim.flag {G : Gh} {H : Hp} {w : World} (h : Sim w0 G H w) {i : Id} (hτ : G.τ i = some none) (hH : H i = none) (hL : ∀ L, G.ρ i.sz = some L → ∃ o, w.heap[i.sz]? = some o ∧ ∀ x ∈ L, pinned G (H.upd i (some .tok)) i.sz o x) : Sim w0 G (H.upd i (some .tok)) w := by
  have hcells : ∀ j avs, (H.upd i (some .tok)) j = some (.cells avs) → H j = some (.cells avs) := fun j avs e => by
    by_cases hji : j = i
    · subst hji; rw [Hp.upd_same] at e; cases e
    · rwa [Hp.upd_ne _ _ hji] at e
  have htok : ∀ j, j ≠ i → (H.upd i (some .tok)) j = some .tok → H j = some .tok := fun j hji e => by rwa [Hp.upd_ne _ _ hji] at e
  refine ⟨h.c, fun j b e => ?_, fun j avs e => h.d j avs (hcells j avs e), fun j e => ?_, h.inj, fun j q b x y hj hq hxj hyq => ?_, fun j q b x hj hq e => ?_, h.below, h.g, fun b L e => ?_⟩
  · obtain ⟨h1, cs, T, h2, h3, h4, h5⟩ := h.v j b e
    exact ⟨h1, cs, T, h2, h3, h4, fun avs ha => h5 avs (hcells j avs ha)⟩
  · by_cases hji : j = i
    · subst hji; exact .inl hτ
    · exact h.t j (htok j hji e)
  · by_cases hji : j = i
    · subst hji; rw [hτ] at hxj; cases hxj
    · by_cases hqi : q = i
      · subst hqi; rw [hτ] at hyq; cases hyq
      · exact h.tinj j q b x y (htok j hji hj) (htok q hqi hq) hxj hyq
  · by_cases hqi : q = i
    · subst hqi; rw [hτ] at e; cases e
    · exact h.vt j q b x hj (htok q hqi hq) e
  · obtain ⟨r1, o, r2, r3, r4⟩ := h.r b L e
    by_cases hb : b = i.sz
    · subst hb
      obtain ⟨o', g1, g2⟩ := hL L e
      rw [r2] at g1
      cases g1
      exact ⟨r1, o, r2, r3, g2⟩
    · refine ⟨r1, o, r2, r3, fun x hx => ?_⟩
      have := r4 x hx
      unfold pinned at this ⊢
      split at this
      · exact this
      · rename_i q hq
        have hne : q ≠ i := fun hqi => hb (by rw [← hqi]; exact this.1.1.symm)
        exact ⟨this.1, fun ht => this.2 (htok q hne ht)⟩

/-- The same facts, seen from a later base. -/
theorem Sim.rebase {G : Gh} {H : Hp} {w : World} (h : Sim w0 G H w) : Sim ⟨w0.w, G⟩ G H w := ⟨h.c, h.v, h.d, h.t, h.inj, h.tinj, h.vt, h.below, Gh.Le.refl G, h.r⟩
theorem Sim.base_of {G1 G : Gh} {H : Hp} {w : World} (h : Sim ⟨w0.w, G1⟩ G H w) (hg : w0.G.Le G) : Sim w0 G H w := ⟨h.c, h.v, h.d, h.t, h.inj, h.tinj, h.vt, h.below, hg, h.r⟩

/-- A loop's record. -/
def mkRec (fn : FuncId) (tmps : Array Value) (ps : Array Tmp) (assign body : Code) (dn : Nat) (st : LoopState) (pe : Option Code) : Loop := { state := st, pending := pe, fn := fn, tmps := tmps, params := ps, assign := assign, body := body, defers := dn }

theorem yield_ok {base : Base} {l : Nat} {key : List Nat} {fn : FuncId} {tmps : Array Value} {ps : Array Tmp} {assign body : Code} {dn : Nat} {t x : List AV} {Hj Hj1 : Hp} {oc : Option AEx} {cst : AEx} {idr idd : Id}
    (hρ : base.G.ρ l = some [(some idr, .loop (mkRec fn tmps ps assign body dn .ready none)), (some idd, .loop (mkRec fn tmps ps assign body dn .done (some cst.code)))])
    (hτr : base.G.τ idr = some none) (hτd : base.G.τ idd = some none) (hszr : idr.sz = l) (hszd : idd.sz = l) (hne : idr ≠ idd) (htm : RepL base.G t tmps.toList) (hx : x.length = ps.size)
    (f1 : Hj idr = none) (f3 : Hj1 idr = none) (f4 : Hj1 idd = none) (hoc : oc = none ∨ oc = some cst ∧ cst ≠ .normal ∧ ∀ v, cst ≠ .panic v)
    (hbody : ∀ w0' : Base, w0'.w = base.w → CodeOk P w0' (some l) key assign ⟨setPs t ps.toList x, 0, Hj⟩ (thenR (fun s1 => ∀ w0'' : Base, w0''.w = base.w → CodeOk P w0'' (some l) key body s1 (roundR oc Hj1)) fun _ _ => False)) :
    YieldIn P base key l x (Hj.upd idr (some .tok)) (if oc = none then Hj1.upd idr (some .tok) else Hj1.upd idd (some .tok)) (.bool oc.isNone) := by
  intro G w cargs hs hfr hr Rr hRr
  have hρG := hs.g.ρ _ _ hρ
  obtain ⟨hbl, o, hl, _, hpin⟩ := hs.r l _ hρG
  have hrdy : w.heap[l]? = some (.loop (mkRec fn tmps ps assign body dn .ready none)) := by
    have := (hpin (some idr, .loop (mkRec fn tmps ps assign body dn .ready none)) (by simp)).2 (Hp.upd_same _ _ _)
    rw [hl, this]
  have hcs : cargs.size = ps.size := by rw [← hr.size]; exact hx
  have hy := run_yield (P := P) (args := cargs) hrdy (by simpa [mkRec] using hcs)
  refine ⟨_, _, _, _, hy, ?_⟩
  refine roundIn_of_wpIn (F := Fence.wide) (n := 0) trivial ?_
  -- the assignments, the record being ready
  have s0 : Sim base G Hj w := hs.forget (Hp.le_upd (Hp.Le.refl _) f1)
  have hnc : ∀ r : Loop, ∀ cs T f, Obj.loop r ≠ .cells cs T f := fun r cs T f e => by cases e
  have s1 : Sim ⟨base.w, { G with ρ := fun b => if b = l then some [(none, .loop (mkRec fn tmps ps assign body dn .ready none))] else G.ρ b }⟩ { G with ρ := fun b => if b = l then some [(none, .loop (mkRec fn tmps ps assign body dn .ready none))] else G.ρ b } Hj w := by
    have s0' : Sim ⟨base.w, { base.G with ρ := fun _ => none }⟩ G Hj w := ⟨s0.c, s0.v, s0.d, s0.t, s0.inj, s0.tinj, s0.vt, s0.below, ⟨s0.g.C, s0.g.σ, s0.g.τ, fun _ _ e => (by cases e)⟩, s0.r⟩
    exact (s0'.pin hrdy (hnc _) hbl (.inl rfl) (by simp [pinned])).rebase
  have htmG : RepL G t tmps.toList := RepL.mono hs.g _ _ htm
  refine hbody _ ?hw ⟨{ G with ρ := fun b => if b = l then none else G.ρ b }, []⟩ _ w _ s1 ?_ ?_ ?_ _ ?_
  case hw => rfl
  · have := rep_setPs ps.toList x cargs.toList t tmps hr htmG
    have e : ((mkRec fn tmps ps assign body dn .ready none).params.zip cargs).foldl (fun tmps (t, a) => tmps.setIfInBounds t a) (mkRec fn tmps ps assign body dn .ready none).tmps = (ps.toList.zip cargs.toList).foldl (fun (t : Array Value) (p, v) => t.setIfInBounds p v) tmps := by
      rw [← Array.foldl_toList, Array.toList_zip]
      rfl
    rw [e]
    exact rep_noρ this
  · intro m _ i hi
    exact hfr i ((List.suffix_cons m key).trans hi)
  · refine ⟨⟨fun _ _ h => h, fun _ _ h => h, fun _ _ h => h, fun b o e => ?_⟩, [], rfl, List.nodup_nil, by simp⟩
    simp only at e ⊢
    split at e
    · cases e
    · rename_i hb
      rw [if_neg hb]
      exact e
  · -- behind the assignments
    intro y s1' G3 w3 a3 hy1 hl3 hn3 hs3 hr3 hd3 hf3 hle3 X3 hX3
    cases y with
    | exit id => exact hy1.elim
    | ret => exact hy1.elim
    | panic v => exact hy1.elim
    | normal =>
      cases hX3
      have hρ3 : G3.ρ l = some [(none, .loop (mkRec fn tmps ps assign body dn .ready none))] := hl3.ρ l _ (by simp)
      obtain ⟨_, o3, hl3', _, hpin3⟩ := hs3.r l _ hρ3
      have hrdy3 : w3.heap[l]? = some (.loop (mkRec fn tmps ps assign body dn .ready none)) := by
        have := hpin3 _ (List.mem_singleton.2 rfl)
        simp only [pinned] at this
        rw [hl3', this]
      refine ⟨_, run_beginRound hrdy3 rfl, ?_⟩
      have hlt3 := (Array.getElem?_eq_some_iff.1 hrdy3).1
      have hbusy : (w3.putObj l (.loop (mkRec fn tmps ps assign body dn .busy none))).heap[l]? = some (.loop (mkRec fn tmps ps assign body dn .busy none)) := World.putObj_heap_same hlt3
      -- the body, the record being busy
      have s3 : Sim ⟨base.w, { G3 with ρ := fun b => if b = l then some [(none, .loop (mkRec fn tmps ps assign body dn .busy none))] else G3.ρ b }⟩ { G3 with ρ := fun b => if b = l then some [(none, .loop (mkRec fn tmps ps assign body dn .busy none))] else G3.ρ b } s1'.H (w3.putObj l (.loop (mkRec fn tmps ps assign body dn .busy none))) := by
        have q1 : Sim ⟨base.w, { G3 with ρ := fun _ => none }⟩ { G3 with ρ := fun b => if b = l then none else G3.ρ b } s1'.H w3 := by
          refine ⟨hs3.c, fun i b e => ?_, hs3.d, hs3.t, hs3.inj, hs3.tinj, hs3.vt, hs3.below, ⟨fun _ _ h => h, fun _ _ h => h, fun _ _ h => h, fun _ _ e => (by cases e)⟩, fun b L e => ?_⟩
          · obtain ⟨h1, cs, T, h2, h3, h4, h5⟩ := hs3.v i b e
            exact ⟨h1, cs, T, h2, h3, h4, fun avs ha => rep_noρ (h5 avs ha)⟩
          · simp only at e
            split at e
            · cases e
            · exact hs3.r b L e
        have q2 := q1.putObj (o' := .loop (mkRec fn tmps ps assign body dn .busy none)) hrdy3 (hnc _) hbl (hnc _) (fun L e => by simp at e)
        have q3 := (q2.pin hbusy (hnc _) hbl (.inl rfl) (L := [(none, .loop (mkRec fn tmps ps assign body dn .busy none))]) (by simp [pinned])).rebase
        have e : (fun b => if b = l then some [((none : Option Id), Obj.loop (mkRec fn tmps ps assign body dn .busy none))] else if b = l then none else G3.ρ b) = fun b => if b = l then some [(none, .loop (mkRec fn tmps ps assign body dn .busy none))] else G3.ρ b := by
          funext b
          split <;> rfl
        simp only [e] at q3
        exact q3
      obtain ⟨hd31, Ds, hd32, hd33, hd34⟩ := hd3
      have hG0 : Gh.Le { G with ρ := fun b => if b = l then none else G.ρ b } { G3 with ρ := fun b => if b = l then some [(none, .loop (mkRec fn tmps ps assign body dn .busy none))] else G3.ρ b } := by
        refine ⟨hd31.C, hd31.σ, hd31.τ, fun b o e => ?_⟩
        have := hd31.ρ b o e
        simp only at e ⊢
        split at e
        · cases e
        · rename_i hb
          rw [if_neg hb]
          exact this
      refine hy1 _ ?hw ⟨{ G with ρ := fun b => if b = l then none else G.ρ b }, []⟩ _ _ a3 s3 (rep_noρ hr3) hf3 ⟨hG0, Ds, hd32, hd33, fun D hD => ⟨?_, (hd34 D hD).2⟩⟩ _ ?_
      case hw => rfl
      · have hDl : D ≠ l := fun e => by
          have := (hd34 D hD).1
          rw [e, hρ3] at this
          simp at this
        simp only [if_neg hDl]
        exact (hd34 D hD).1
      · intro y2 s2 G4 w4 a4 hy2 hl4 hn4 hs4 hr4 _ _ _ X4 hX4
        obtain ⟨hy2, hH2⟩ := hy2
        have hρ4 : G4.ρ l = some [(none, .loop (mkRec fn tmps ps assign body dn .busy none))] := hl4.ρ l _ (by simp)
        obtain ⟨_, o4, hl4', _, hpin4⟩ := hs4.r l _ hρ4
        have hbusy4 : w4.heap[l]? = some (.loop (mkRec fn tmps ps assign body dn .busy none)) := by
          have := hpin4 _ (List.mem_singleton.2 rfl)
          simp only [pinned] at this
          rw [hl4', this]
        have hlt4 := (Array.getElem?_eq_some_iff.1 hbusy4).1
        -- what is known behind the round
        have hC : Gh.Le G { G4 with ρ := fun b => if b = l then some [(some idr, .loop (mkRec fn tmps ps assign body dn .ready none)), (some idd, .loop (mkRec fn tmps ps assign body dn .done (some cst.code)))] else G4.ρ b } := by
          refine ⟨fun a v e => hl4.C a v (hl3.C a v e), fun i b e => hl4.σ i b (hl3.σ i b e), fun i b e => hl4.τ i b (hl3.τ i b e), fun b L e => ?_⟩
          simp only
          by_cases hb : b = l
          · rw [if_pos hb, ← hρG, ← hb]
            exact e
          · rw [if_neg hb]
            refine hl4.ρ b L ?_
            simp only [if_neg hb]
            refine hl3.ρ b L ?_
            simp only [if_neg hb]
            exact e
        have hNew : New key G { G4 with ρ := fun b => if b = l then some [(some idr, .loop (mkRec fn tmps ps assign body dn .ready none)), (some idd, .loop (mkRec fn tmps ps assign body dn .done (some cst.code)))] else G4.ρ b } := fun i hi => by
          have g3 := hn3.up i hi
          have g4 := hn4.up i hi
          exact ⟨g4.1.trans g3.1, g4.2.trans g3.2⟩
        have fin : ∀ (o' : Obj) (idf : Id), (idf = idr ∧ o' = .loop (mkRec fn tmps ps assign body dn .ready none) ∨ idf = idd ∧ o' = .loop (mkRec fn tmps ps assign body dn .done (some cst.code))) →
            Sim base { G4 with ρ := fun b => if b = l then some [(some idr, .loop (mkRec fn tmps ps assign body dn .ready none)), (some idd, .loop (mkRec fn tmps ps assign body dn .done (some cst.code)))] else G4.ρ b } (Hj1.upd idf (some .tok)) (w4.putObj l o') := by
          intro o' idf hof
          have hτ4r : G4.τ idr = some none := (hs.g.trans hC).τ _ _ hτr
          have hτ4d : G4.τ idd = some none := (hs.g.trans hC).τ _ _ hτd
          have hno' : ∀ cs T f, o' ≠ .cells cs T f := by rcases hof with ⟨_, rfl⟩ | ⟨_, rfl⟩ <;> exact hnc _
          have q1 : Sim ⟨base.w, { G4 with ρ := fun _ => none }⟩ { G4 with ρ := fun b => if b = l then none else G4.ρ b } Hj1 w4 := by
            have hs4' := hs4.forget hH2
            refine ⟨hs4'.c, fun i b e => ?_, hs4'.d, hs4'.t, hs4'.inj, hs4'.tinj, hs4'.vt, hs4'.below, ⟨fun _ _ h => h, fun _ _ h => h, fun _ _ h => h, fun _ _ e => (by cases e)⟩, fun b L e => ?_⟩
            · obtain ⟨h1, cs, T, h2, h3, h4, h5⟩ := hs4'.v i b e
              exact ⟨h1, cs, T, h2, h3, h4, fun avs ha => rep_noρ (h5 avs ha)⟩
            · simp only at e
              split at e
              · cases e
              · exact hs4'.r b L e
          have q2 := q1.putObj (o' := o') hbusy4 (hnc _) hbl hno' (fun L e => by simp at e)
          have q3 := q2.pin (L := [(some idr, .loop (mkRec fn tmps ps assign body dn .ready none)), (some idd, .loop (mkRec fn tmps ps assign body dn .done (some cst.code)))]) (World.putObj_heap_same hlt4) hno' hbl (.inl rfl) (by
            intro x hx
            simp only [List.mem_cons, List.not_mem_nil, or_false] at hx
            rcases hx with rfl | rfl
            · exact ⟨⟨hszr, by rw [show ({ G4 with ρ := fun b => if b = l then none else G4.ρ b } : Gh).τ idr = G4.τ idr from rfl, hτ4r]; simp⟩, fun e => by rw [f3] at e; cases e⟩
            · exact ⟨⟨hszd, by rw [show ({ G4 with ρ := fun b => if b = l then none else G4.ρ b } : Gh).τ idd = G4.τ idd from rfl, hτ4d]; simp⟩, fun e => by rw [f4] at e; cases e⟩)
          have e : (fun b => if b = l then some [(some idr, Obj.loop (mkRec fn tmps ps assign body dn .ready none)), (some idd, Obj.loop (mkRec fn tmps ps assign body dn .done (some cst.code)))] else if b = l then none else G4.ρ b) = fun b => if b = l then some [(some idr, Obj.loop (mkRec fn tmps ps assign body dn .ready none)), (some idd, Obj.loop (mkRec fn tmps ps assign body dn .done (some cst.code)))] else G4.ρ b := by
            funext b
            split <;> rfl
          simp only [e] at q3
          have q4 := Sim.base_of (w0 := base) (G1 := { G4 with ρ := fun _ => none }) q3 (hs.g.trans hC)
          have hfl : idf.sz = l := by rcases hof with ⟨rfl, _⟩ | ⟨rfl, _⟩ <;> assumption
          refine q4.flag (i := idf) (by rcases hof with ⟨rfl, _⟩ | ⟨rfl, _⟩ <;> assumption) (by rcases hof with ⟨rfl, _⟩ | ⟨rfl, _⟩ <;> assumption) fun L eL => ?_
          rw [hfl] at eL ⊢
          simp only [if_true, Option.some.injEq] at eL
          subst eL
          refine ⟨o', World.putObj_heap_same hlt4, fun x hx => ?_⟩
          simp only [List.mem_cons, List.not_mem_nil, or_false] at hx
          rcases hx with rfl | rfl
          · refine ⟨⟨hszr, by simp [hτ4r]⟩, fun eT => ?_⟩
            rcases hof with ⟨rfl, rfl⟩ | ⟨rfl, rfl⟩
            · rfl
            · rw [Hp.upd_ne _ _ hne, f3] at eT; cases eT
          · refine ⟨⟨hszd, by simp [hτ4d]⟩, fun eT => ?_⟩
            rcases hof with ⟨rfl, rfl⟩ | ⟨rfl, rfl⟩
            · rw [Hp.upd_ne _ _ (Ne.symm hne), f4] at eT; cases eT
            · rfl
        rcases hoc with rfl | ⟨rfl, hcn⟩
        · simp only [Option.getD_none] at hy2
          subst hy2
          cases hX4
          exact ⟨_, _, run_endRound none hbusy4, hRr _ _ _ hC hNew (by rw [if_pos rfl]; exact fin (.loop (mkRec fn tmps ps assign body dn .ready none)) idr (.inl ⟨rfl, rfl⟩)) (by simp [Rep])⟩
        · simp only [Option.getD_some] at hy2
          subst hy2
          cases y2 with
          | normal => exact absurd rfl hcn.1
          | panic v => exact absurd rfl (hcn.2 v)
          | ret => cases hX4; exact ⟨_, _, run_endRound (some .ret) hbusy4, hRr _ _ _ hC hNew (by rw [if_neg (by simp)]; exact fin (.loop (mkRec fn tmps ps assign body dn .done (some .ret))) idd (.inr ⟨rfl, rfl⟩)) (by simp [Rep])⟩
          | exit id => cases hX4; exact ⟨_, _, run_endRound (some (.exit id)) hbusy4, hRr _ _ _ hC hNew (by rw [if_neg (by simp)]; exact fin (.loop (mkRec fn tmps ps assign body dn .done (some (.exit id)))) idd (.inr ⟨rfl, rfl⟩)) (by simp [Rep])⟩

theorem first_stop (br : Nat → Option AEx) : ∀ m : Nat, (∀ i, i < m → br i = none) ∨ ∃ j c, j < m ∧ (∀ i, i < j → br i = none) ∧ br j = some c
  | 0 => .inl fun i h => by omega
  | m + 1 => by
    rcases first_stop br m with h | ⟨j, c, h1, h2, h3⟩
    · cases hm : br m with
      | none =>
        refine .inl fun i hi => ?_
        by_cases e : i = m
        · rw [e]; exact hm
        · exact h i (by omega)
      | some c => exact .inr ⟨m, c, by omega, h, hm⟩
    · exact .inr ⟨j, c, by omega, h2, h3⟩

open Classical in
theorem rangeOk {p : List Nat} {g : Operand} {ps : Array Tmp} {assign body : Code} {t : List AV} {n : Nat} {H : Hp} {R : AEx → FS → Prop} {gf : FuncId} {caps : List AV} {xs : List (List AV)} (hg : evA t g = .clo (.func gf) [] caps) (hit : Iter P gf caps xs)
    (hlen : ∀ x ∈ xs, x.length = ps.size) (Hb : Nat → Hp) (br : Nat → Option AEx) (hbr : ∀ j, br j ≠ some .normal) (hbp : ∀ j v, br j ≠ some (.panic v)) (h0 : Hb 0 = H) (hfree : ∀ j i, (n :: p) <:+ i.key → Hb j i = none)
    (hbody : ∀ j x, xs[j]? = some x → (∀ i, i < j → br i = none) → ∀ l key (w0' : Base), w0'.w = w0.w → (n :: p) <:+ key → CodeOk P w0' (some l) key assign ⟨setPs t ps.toList x, 0, Hb j⟩ (thenR (fun s1 => ∀ w0'' : Base, w0''.w = w0.w → CodeOk P w0'' (some l) key body s1 (roundR (br j) (Hb (j + 1)))) fun _ _ => False))
    (hall : (∀ i, i < xs.length → br i = none) → R .normal ⟨t, n + 1, Hb xs.length⟩) (hstop : ∀ j c, j < xs.length → (∀ i, i < j → br i = none) → br j = some c → R c ⟨t, n + 1, Hb (j + 1)⟩) :
    CodeOk P w0 none p (.rangeFunc g ps assign body) ⟨t, n, H⟩ R := by
  intro G0 G w a hs hr hf hd Qc hB
  simp only at hs hr hf
  have hgv := rep_eval hr g
  rw [hg] at hgv
  simp only [Rep, RepL] at hgv
  obtain ⟨fi, ca, hev, rfl, hca⟩ := hgv
  refine wpIn_rangeFunc (F := fz none) (n := 0) fun fn _ => ?_
  -- the two blocks
  obtain ⟨rec, hrec⟩ : ∃ rec, rec = mkRec fn a.tmps ps assign body w.heap.size := ⟨_, rfl⟩
  obtain ⟨w1, hw1⟩ : ∃ w1, w1 = (w.alloc (.deferred (some []))).alloc (.loop (rec .ready none)) := ⟨_, rfl⟩
  have hsz1 : (w.alloc (.deferred (some []))).heap.size = w.heap.size + 1 := World.size_alloc _ _
  have hL1 : w1.heap[w.heap.size + 1]? = some (.loop (rec .ready none)) := by
    rw [hw1, ← hsz1]
    exact World.alloc_heap_new _ _
  have hD1 : w1.heap[w.heap.size]? = some (.deferred (some [])) := by
    rw [hw1]
    exact (Below.heap_alloc _ _ _ (by rw [hsz1]; omega)).trans (World.alloc_heap_new w _)
  have hsA : Sim w0 G H w1 := by rw [hw1]; exact (hs.alloc _).alloc _
  have hbase := hs.base
  have hρG : ∀ b, w.heap.size ≤ b → G.ρ b = none := fun b hb => by
    cases e : G.ρ b with
    | none => rfl
    | some L =>
      obtain ⟨_, o, h2, _⟩ := hs.r b L e
      have := (Array.getElem?_eq_some_iff.1 h2).1
      omega
  have hρ0 : ∀ b, w.heap.size ≤ b → w0.G.ρ b = none := fun b hb => by
    cases e : w0.G.ρ b with
    | none => rfl
    | some L =>
      have := hs.g.ρ _ _ e
      rw [hρG b hb] at this
      cases this
  obtain ⟨idr, hidr⟩ : ∃ idr : Id, idr = ⟨w.heap.size + 1, 0 :: n :: p, 0⟩ := ⟨_, rfl⟩
  obtain ⟨idd, hidd⟩ : ∃ idd : Id, idd = ⟨w.heap.size + 1, 0 :: 0 :: n :: p, 0⟩ := ⟨_, rfl⟩
  have hsr : (n :: p) <:+ idr.key := by rw [hidr]; exact List.suffix_cons _ _
  have hsd : (n :: p) <:+ idd.key := by rw [hidd]; exact (List.suffix_cons _ _).trans (List.suffix_cons _ _)
  have hne : idr ≠ idd := by
    rw [hidr, hidd]
    intro e
    have := congrArg (fun i : Id => i.key.length) e
    simp at this
  have hfr0 := hf n (Nat.le_refl _)
  obtain ⟨cst, hcst⟩ : ∃ cst : AEx, ∀ j c, j < xs.length → (∀ i, i < j → br i = none) → br j = some c → c = cst := by
    rcases first_stop br xs.length with hA | ⟨j0, c0, h1, h2, h3⟩
    · exact ⟨.ret, fun j c hj _ e => by rw [hA j hj] at e; cases e⟩
    · refine ⟨c0, fun j c hj hp e => ?_⟩
      have : j = j0 := by
        rcases Nat.lt_trichotomy j j0 with h | h | h
        · rw [h2 j h] at e; cases e
        · exact h
        · rw [hp j0 h] at h3; cases h3
      rw [this, h3] at e
      cases e
      rfl
  obtain ⟨L, hL⟩ : ∃ L : List (Option Id × Obj), L = [(some idr, .loop (rec .ready none)), (some idd, .loop (rec .done (some cst.code)))] := ⟨_, rfl⟩
  have hHd : H idd = none := by rw [← h0]; exact hfree 0 _ hsd
  have q1 : Sim w0 (G.withτ idd none) H w1 := hsA.newTok idd (hfr0 idd hsd).2 none (fun _ _ h => h) (fun _ _ h => h) (fun b m c T e => by cases e)
  have hτr1 : (G.withτ idd none).τ idr = none := by simp [Gh.withτ, hne, (hfr0 idr hsr).2]
  have q2 : Sim w0 ((G.withτ idd none).withτ idr none) (H.upd idr (some .tok)) w1 := q1.newTok idr hτr1 none (fun i avs e => by
      by_cases hi : i = idr
      · subst hi; rw [Hp.upd_same] at e; cases e
      · rwa [Hp.upd_ne _ _ hi] at e) (fun i hi e => by rwa [Hp.upd_ne _ _ hi] at e) (fun b m c T e => by cases e)
  have hnl : ∀ (r : Loop) cs T f, Obj.loop r ≠ .cells cs T f := fun r cs T f e => by cases e
  have q3 := q2.pin (D := w.heap.size + 1) (L := L) hL1 (hnl _) (by omega) (.inl (hρ0 _ (by omega))) (by
    subst hL
    intro x hx
    simp only [List.mem_cons, List.not_mem_nil, or_false] at hx
    rcases hx with rfl | rfl
    · exact ⟨⟨by rw [hidr], by simp [Gh.withτ]⟩, fun _ => rfl⟩
    · exact ⟨⟨by rw [hidd], by simp [Gh.withτ, Ne.symm hne]⟩, fun e => by rw [Hp.upd_ne _ _ (Ne.symm hne), hHd] at e; cases e⟩)
  have q4 := (q3.pin (D := w.heap.size) (L := [(none, .deferred (some []))]) hD1 (by simp) (by omega) (.inl (hρ0 _ (by omega))) (by simp [pinned])).rebase
  have hle1 : G.Le { ({ ((G.withτ idd none).withτ idr none) with ρ := fun b => if b = w.heap.size + 1 then some L else ((G.withτ idd none).withτ idr none).ρ b } : Gh) with ρ := fun b => if b = w.heap.size then some [(none, .deferred (some []))] else (if b = w.heap.size + 1 then some L else ((G.withτ idd none).withτ idr none).ρ b) } := by
    refine ⟨fun _ _ h => h, fun _ _ h => h, ((Gh.le_withτ (x := none) (hfr0 idd hsd).2).trans (Gh.le_withτ (x := none) hτr1)).τ, fun b o e => ?_⟩
    have hb : b < w.heap.size := by
      rcases Nat.lt_or_ge b w.heap.size with h | h
      · exact h
      · rw [hρG b h] at e; cases e
    simp only [if_neg (show b ≠ w.heap.size by omega), if_neg (show b ≠ w.heap.size + 1 by omega)]
    exact e
  obtain ⟨G1, hG1⟩ : ∃ G1 : Gh, G1 = { ({ ((G.withτ idd none).withτ idr none) with ρ := fun b => if b = w.heap.size + 1 then some L else ((G.withτ idd none).withτ idr none).ρ b } : Gh) with ρ := fun b => if b = w.heap.size then some [(none, .deferred (some []))] else (if b = w.heap.size + 1 then some L else ((G.withτ idd none).withτ idr none).ρ b) } := ⟨_, rfl⟩
  rw [← hG1] at q4 hle1
  have hρl : G1.ρ (w.heap.size + 1) = some L := by rw [hG1]; simp
  have hρD : G1.ρ w.heap.size = some [(none, .deferred (some []))] := by rw [hG1]; simp
  have hτr : G1.τ idr = some none := by rw [hG1]; simp [Gh.withτ]
  have hτd : G1.τ idd = some none := by rw [hG1]; simp [Gh.withτ, Ne.symm hne]
  have hnew1 : ∀ i : Id, ¬ (n :: p) <:+ i.key → G1.σ i = G.σ i ∧ G1.τ i = G.τ i := fun i hi => by
    have h1 : i ≠ idr := fun e => hi (by rw [e]; exact hsr)
    have h2 : i ≠ idd := fun e => hi (by rw [e]; exact hsd)
    rw [hG1]
    simp [Gh.withτ, h1, h2]
  have hk : ∀ i : Id, (1 :: n :: p) <:+ i.key → i ≠ idr ∧ i ≠ idd := fun i hi => by
    constructor
    · rintro rfl
      rw [hidr] at hi
      have := hi.eq_of_length (by simp)
      simp at this
    · rintro rfl
      rw [hidd] at hi
      have h3 : (0 :: n :: p) <:+ (0 :: 0 :: n :: p) := List.suffix_cons _ _
      have := (List.suffix_of_suffix_length_le hi h3 (by simp)).eq_of_length (by simp)
      simp at this
  have hfr1 : Fresh G1 (1 :: n :: p) := fun i hi => by
    obtain ⟨h1, h2⟩ := hk i hi
    have := hfr0 i ((List.suffix_cons _ _).trans hi)
    rw [hG1]
    simpa [Gh.withτ, h1, h2] using this
  -- the heaps between the rounds
  obtain ⟨Hs, hHs⟩ : ∃ Hs : Nat → Hp, Hs = fun j => if (∀ i, i < j → br i = none) then (Hb j).upd idr (some .tok) else (Hb j).upd idd (some .tok) := ⟨_, rfl⟩
  obtain ⟨v, hcall⟩ := hit ⟨w0.w, G1⟩ (w.heap.size + 1) (1 :: n :: p) Hs (fun j => (br j).isNone) (fun j x hx hprev key hkey => by
    have hp : ∀ i, i < j → br i = none := fun i hi => by simpa using hprev i hi
    have hy := yield_ok (base := ⟨w0.w, G1⟩) (key := key) (P := P) (l := w.heap.size + 1) (fn := fn) (tmps := a.tmps) (ps := ps) (assign := assign) (body := body) (dn := w.heap.size) (t := t) (x := x) (Hj := Hb j) (Hj1 := Hb (j + 1)) (oc := br j) (cst := cst) (idr := idr) (idd := idd)
      (by rw [← hrec, ← hL]; exact hρl) hτr hτd (by rw [hidr]) (by rw [hidd]) hne (RepL.mono hle1 _ _ hr) (hlen x (List.mem_of_getElem? hx)) (hfree j _ hsr) (hfree (j + 1) _ hsr) (hfree (j + 1) _ hsd)
      (by
        cases e : br j with
        | none => exact .inl rfl
        | some c =>
          have hjl : j < xs.length := (List.getElem?_eq_some_iff.1 hx).1
          have := hcst j c hjl hp e
          subst this
          exact .inr ⟨rfl, fun h => hbr j (by rw [e, h]), fun v h => hbp j v (by rw [e, h])⟩)
      (fun w0' hw => hbody j x hx hp _ key w0' hw ((List.suffix_cons _ _).trans hkey))
    have e1 : Hs j = (Hb j).upd idr (some .tok) := by rw [hHs]; simp only; rw [if_pos hp]
    have e2 : Hs (j + 1) = if br j = none then (Hb (j + 1)).upd idr (some .tok) else (Hb (j + 1)).upd idd (some .tok) := by
      rw [hHs]
      simp only
      by_cases hj : br j = none
      · rw [if_pos hj, if_pos]
        intro i hi
        by_cases e : i = j
        · rw [e]; exact hj
        · exact hp i (by omega)
      · rw [if_neg hj, if_neg]
        exact fun h => hj (h j (by omega))
    rw [e1, e2]
    exact hy) (fun j i hi => by
    obtain ⟨h1, h2⟩ := hk i hi
    rw [hHs]
    simp only
    split
    · rw [Hp.upd_ne _ _ h1]; exact hfree j i ((List.suffix_cons _ _).trans hi)
    · rw [Hp.upd_ne _ _ h2]; exact hfree j i ((List.suffix_cons _ _).trans hi))
  have hHs0 : Hs 0 = H.upd idr (some .tok) := by
    rw [hHs]
    simp only
    rw [if_pos (fun i hi => by omega), h0]
  have hargs : RepL G1 ([.clo (.yield (w.heap.size + 1)) [] []] ++ caps) (#[Value.func (.yield (w.heap.size + 1)) #[] #[]] ++ ca.toArray).toList := by
    have h1 : RepL G1 [.clo (.yield (w.heap.size + 1)) [] []] [.func (.yield (w.heap.size + 1)) #[] #[]] := repL_one (by simp only [Rep]; exact ⟨[], [], rfl, by simp [RepL], by simp [RepL]⟩)
    have := RepL.append h1 (RepL.mono hle1 _ _ hca)
    simpa using this
  obtain ⟨⟨fnn, cc, k1, k2, k3⟩, hcall⟩ := hcall
  refine ⟨w.heap.size + 1, [mkMark w.heap.size], w1, { target := .fn (.func gf) ca.toArray, args := #[Value.func (.yield (w.heap.size + 1)) #[] #[]] }, w1, gf, #[Value.func (.yield (w.heap.size + 1)) #[] #[]] ++ ca.toArray, w1, ?_, ?_, fun _ _ => trivial, ?_, fun hh => (by cases hh), ?_⟩
  · rw [hw1, hrec]
    exact run_enterLoop_outer _ _ _ _ _
  · simp only [resolve, hev]
    simp [go_sem]
  · simp [invoke, callFunc, program, Sem.run, k1, k2, by simpa using k3]
  · refine calls_fz (hcall G1 w1 _ (by rw [hHs0]; exact q4) hfr1 hargs _ fun G' w' V hl' hn' hs' hv' => ?_)
    -- behind the loop
    have hle : G.Le G' := hle1.trans hl'
    have hg : w0.G.Le G' := hs.g.trans hle
    have hNF : NewF p n G G' := fun i hi => by
      have hi1 : ¬ (n :: p) <:+ i.key := fun h => hi ⟨n, Nat.le_refl _, h⟩
      have hi2 : ¬ (1 :: n :: p) <:+ i.key := fun h => hi1 ((List.suffix_cons _ _).trans h)
      have g1 := hnew1 i hi1
      have g2 := hn' i hi2
      exact ⟨g2.1.trans g1.1, g2.2.trans g1.2⟩
    have hFF : FreshFrom G' p (n + 1) := fun m hm i hi => by
      have hno : ¬ (n :: p) <:+ i.key := fun h => by
        have := (List.suffix_of_suffix_length_le h hi (by simp)).eq_of_length (by simp)
        simp at this
        omega
      have g1 := hnew1 i hno
      have g2 := hn' i fun h => hno ((List.suffix_cons _ _).trans h)
      rw [g2.1, g2.2, g1.1, g1.2]
      exact hf m (by omega) i hi
    have hDef : DefOk G0 G' ([mkMark w.heap.size] ++ a.defers) := by
      obtain ⟨d1, Ds, d2, d3, d4⟩ := hd
      refine ⟨d1.trans hle, w.heap.size :: Ds, by rw [d2]; rfl, List.nodup_cons.2 ⟨fun hm => ?_, d3⟩, fun D hD => ?_⟩
      · have := (d4 _ hm).1
        rw [hρG _ (Nat.le_refl _)] at this
        cases this
      · rcases List.mem_cons.1 hD with rfl | hD
        · refine ⟨hl'.ρ _ _ hρD, ?_⟩
          cases e : G0.g.ρ w.heap.size with
          | none => rfl
          | some L' =>
            have := d1.ρ _ _ e
            rw [hρG _ (Nat.le_refl _)] at this
            cases this
        · exact ⟨hle.ρ _ _ (d4 D hD).1, (d4 D hD).2⟩
    have hρ' := hl'.ρ _ _ hρl
    obtain ⟨r1, o, r2, _, r4⟩ := hs'.r _ _ hρ'
    have endS : ∀ (Hx : Hp) (rr : Loop) (idf : Id), (idf = idr ∨ idf = idd) → Hx idr = none → Hx idd = none → Sim ⟨w0.w, G1⟩ G' (Hx.upd idf (some .tok)) w' → w'.heap[w.heap.size + 1]? = some (.loop rr) → ∀ o', (∀ cs T f, o' ≠ .cells cs T f) → Sim w0 G' Hx (w'.putObj (w.heap.size + 1) o') := by
      intro Hx rr idf hidf n1 n2 hsx hrr o' ho'
      have hlex : Hx.Le (Hx.upd idf (some .tok)) := Hp.le_upd (Hp.Le.refl _) (by rcases hidf with rfl | rfl <;> assumption)
      have h1 := (hsx.forget hlex).putObj (o' := o') hrr (hnl _) (show (⟨w0.w, G1⟩ : Base).heap.size ≤ w.heap.size + 1 by show w0.heap.size ≤ _; omega) ho' (fun L' e x hx => by
        rw [hρ'] at e
        cases e
        have := r4 x hx
        subst hL
        simp only [List.mem_cons, List.not_mem_nil, or_false] at hx
        rcases hx with rfl | rfl
        · exact ⟨this.1, fun e => by rw [n1] at e; cases e⟩
        · exact ⟨this.1, fun e => by rw [n2] at e; cases e⟩)
      exact h1.base_of hg
    rcases first_stop br xs.length with hA | ⟨j, c, hj, hp, hc⟩
    · have hst : stops (fun j => (br j).isNone) 0 xs.length = xs.length := by
        have := stops_all (fun j => (br j).isNone) xs.length 0 fun i _ h2 => by simp [hA i (by omega)]
        simpa using this
      have hHm : Hs xs.length = (Hb xs.length).upd idr (some .tok) := by rw [hHs]; simp only; rw [if_pos hA]
      rw [hst, hHm] at hs'
      rw [hst, hHm] at r4
      have hrdy : w'.heap[w.heap.size + 1]? = some (.loop (rec .ready none)) := by
        have := (r4 (some idr, .loop (rec .ready none)) (by rw [hL]; simp)).2 (Hp.upd_same _ _ _)
        rw [r2, this]
      refine ⟨none, _, by have := run_endLoop (P := P) hrdy (by rw [hrec]; simp [mkRec]); rw [this, hrec]; rfl, ?_⟩
      exact hB .normal ⟨t, n + 1, Hb xs.length⟩ G' _ { a with defers := [mkMark w.heap.size] ++ a.defers } (hall hA) hle hNF (endS _ _ idr (.inl rfl) (hfree _ _ hsr) (hfree _ _ hsd) hs' hrdy _ (hnl _)) (RepL.mono hle _ _ hr) hDef hFF (Nat.le_succ _) _ rfl
    · have hst : stops (fun j => (br j).isNone) 0 xs.length = j + 1 := stops_at _ j (by simp [hc]) xs.length 0 (by omega) (by omega) fun i _ h2 => by simp [hp i h2]
      have hHm : Hs (j + 1) = (Hb (j + 1)).upd idd (some .tok) := by
        rw [hHs]
        simp only
        rw [if_neg]
        intro h
        rw [h j (by omega)] at hc
        cases hc
      rw [hst, hHm] at hs'
      rw [hst, hHm] at r4
      have hdone : w'.heap[w.heap.size + 1]? = some (.loop (rec .done (some cst.code))) := by
        have := (r4 (some idd, .loop (rec .done (some cst.code))) (by rw [hL]; simp)).2 (Hp.upd_same _ _ _)
        rw [r2, this]
      have hcc := hcst j c hj hp hc
      subst hcc
      refine ⟨some c.code, _, by have := run_endLoop (P := P) hdone (by rw [hrec]; simp [mkRec]); rw [this, hrec]; rfl, ?_⟩
      have hend := hB c ⟨t, n + 1, Hb (j + 1)⟩ G' _ { a with defers := [mkMark w.heap.size] ++ a.defers } (hstop j c hj hp hc) hle hNF (endS _ _ idd (.inr rfl) (hfree _ _ hsr) (hfree _ _ hsd) hs' hdone (.loop { rec .done (some c.code) with state := .exhausted }) (hnl _)) (by cases c <;> first | exact RepL.mono hle _ _ hr | exact .inr (RepL.mono hle _ _ hr)) hDef hFF (Nat.le_succ _)
      subst hrec
      cases c with
      | normal => exact absurd hc (hbr j)
      | ret => exact wpIn_ret (hend _ rfl)
      | exit id => exact wpIn_exit (hend _ rfl)
      | panic v => exact absurd hc (hbp j v)
/-- The same, of which the end is told. -/
theorem rangeDet {p : List Nat} {g : Operand} {ps : Array Tmp} {assign body : Code} {t : List AV} {n : Nat} {H : Hp} {R : AEx → FS → Prop} {gf : FuncId} {caps : List AV} {xs : List (List AV)} (hg : evA t g = .clo (.func gf) [] caps) (hit : Iter P gf caps xs)
    (hlen : ∀ x ∈ xs, x.length = ps.size) (Hb : Nat → Hp) (br : Nat → Option AEx) (hbr : ∀ j, br j ≠ some .normal) (hbp : ∀ j v, br j ≠ some (.panic v)) (h0 : Hb 0 = H) (hfree : ∀ j i, (n :: p) <:+ i.key → Hb j i = none)
    (hbody : ∀ j x, xs[j]? = some x → (∀ i, i < j → br i = none) → ∀ l key (w0' : Base), w0'.w = w0.w → (n :: p) <:+ key → CodeOk P w0' (some l) key assign ⟨setPs t ps.toList x, 0, Hb j⟩ (thenR (fun s1 => ∀ w0'' : Base, w0''.w = w0.w → CodeOk P w0'' (some l) key body s1 (roundR (br j) (Hb (j + 1)))) fun _ _ => False))
    (hall : (∀ i, i < xs.length → br i = none) → R .normal ⟨t, n + 1, Hb xs.length⟩) (hstop : ∀ j c, j < xs.length → (∀ i, i < j → br i = none) → br j = some c → R c ⟨t, n + 1, Hb (j + 1)⟩) :
    DetOk P w0 none p (.rangeFunc g ps assign body) ⟨t, n, H⟩ R := by
  rcases first_stop br xs.length with hA | ⟨j, c, h1, h2, h3⟩
  · refine ⟨_, _, hall hA, rangeOk hg hit hlen Hb br hbr hbp h0 hfree hbody (fun _ => ⟨rfl, rfl⟩) fun j c hj _ hc => ?_⟩
    rw [hA j hj] at hc
    cases hc
  · refine ⟨_, _, hstop j c h1 h2 h3, rangeOk hg hit hlen Hb br hbr hbp h0 hfree hbody (fun hA => ?_) fun i d hi hp hd => ?_⟩
    · rw [hA j h1] at h3
      cases h3
    · have hij : i = j := by
        rcases Nat.lt_trichotomy i j with h | h | h
        · rw [h2 i h] at hd; cases hd
        · exact h
        · rw [hp j h] at h3; cases h3
      subst hij
      rw [h3] at hd
      cases hd
      exact ⟨rfl, rfl⟩
end
end Go.Proofs.YtkdendaohlnlcaaGreatDoor.Av

/- A call of a function that is known by a law of the library's kind: it answers a value, and nothing that was there turns. No condition. -/
namespace Go.Proofs.YtkdendaohlnlcaaGreatDoor.Av
set_option linter.unusedVariables false
set_option linter.unusedSimpArgs false
open Go.RowKit
section
variable {P : Program} {w0 : Base}
theorem Sim.grow {G : Gh} {H : Hp} {w w' : World} (h : Sim w0 G H w) (hb : Below w.heap.size w w') : Sim w0 G H w' where
  c := fun a v e => by rw [hb.cell (h.lt_of_C e)]; exact h.c a v e
  v := fun i b e => by
    obtain ⟨h1, cs, T, h2, h3⟩ := h.v i b e
    exact ⟨h1, cs, T, by rw [hb.block b (h.lt_of_σ e)]; exact h2, h3⟩
  d := h.d
  t := fun i e => by
    rcases h.t i e with h1 | ⟨b, m, c, T, cs, h1, h2, h3, h4⟩
    · exact .inl h1
    · exact .inr ⟨b, m, c, T, cs, h1, h2, by rw [hb.block b (Array.getElem?_eq_some_iff.1 h3).1]; exact h3, h4⟩
  inj := h.inj
  tinj := h.tinj
  vt := h.vt
  below := h.below.trans (hb.mono h.base)
  g := h.g
  r := fun b L e => by
    obtain ⟨h1, o, h2, h3⟩ := h.r b L e
    exact ⟨h1, o, by rw [hb.block b (Array.getElem?_eq_some_iff.1 h2).1]; exact h2, h3⟩

/-- A call whose arguments are plain values and whose answer is a plain value. -/
theorem callAt_of_law {k : List Nat} {f : FuncId} {fn : Func} {c : Code} {H : Hp} (hf : P.funcs[f]? = some fn) (hb : fn.body = some c) (hn : (fn.name == "runtime.NumGoroutine") = false) {args : List AV} {v : Value}
    (h : ∀ (G : Gh) (w : World) (cargs : Array Value), (∀ a u, G.C a = some u → w.cell? a = some u) → RepL G args cargs.toList → Calls P f cargs w fun e w' => e = .returned v ∧ Below w.heap.size w w') : CallAt P w0 k f args H H (.raw v) :=
  .inl ⟨⟨fn, c, hf, hb, hn⟩, fun G w cargs hs _ hr R hR => (h G w cargs hs.c hr).mono fun e w' he => by
    obtain ⟨rfl, hbl⟩ := he
    exact hR G w' v (Gh.Le.refl G) (New.refl _ G) (hs.grow hbl) (by simp [Rep])⟩

/-- A call whose answer may lie in memory that the call has made. -/
theorem callAt_of_law' {k : List Nat} {f : FuncId} {fn : Func} {c : Code} {H : Hp} (hf : P.funcs[f]? = some fn) (hb : fn.body = some c) (hn : (fn.name == "runtime.NumGoroutine") = false) {args : List AV} {v : AV}
    (h : ∀ (G : Gh) (w : World) (cargs : Array Value), Sim w0 G H w → RepL G args cargs.toList → Calls P f cargs w fun e w' => ∃ V g, e = .returned V ∧ Below w.heap.size w w' ∧ (∀ a u, g a = some u → w'.cell? a = some u ∧ w.heap.size ≤ a.block) ∧ Rep (G.withC g) v V) : CallAt P w0 k f args H H v :=
  .inl ⟨⟨fn, c, hf, hb, hn⟩, fun G w cargs hs _ hr R hR => (h G w cargs hs hr).mono fun e w' he => by
    obtain ⟨V, g, rfl, hbl, hg, hv⟩ := he
    refine hR (G.withC g) w' V (G.le_withC g) (fun _ _ => ⟨rfl, rfl⟩) ((hs.grow hbl).withC g (fun a u e => (hg a u e).1) (fun i b e a ha => ?_) (fun i b m cc T hi e a ha _ => ?_)) hv
    · cases hga : g a with
      | none => rfl
      | some u =>
        have h1 := (hg a u hga).2
        have h2 := hs.lt_of_σ e
        omega
    · cases hga : g a with
      | none => rfl
      | some u =>
        have h1 := (hg a u hga).2
        rcases hs.t i hi with h2 | ⟨b', m', c', T', cs, h2, h3, h4, _⟩
        · rw [e] at h2; cases h2
        · rw [e] at h2
          simp only [Option.some.injEq, Prod.mk.injEq] at h2
          have := (Array.getElem?_eq_some_iff.1 h4).1
          omega⟩
end
end Go.Proofs.YtkdendaohlnlcaaGreatDoor.Av

/- Loops over the characters of a string. No condition. -/
namespace Go.Proofs.YtkdendaohlnlcaaGreatDoor.Av
set_option linter.unusedVariables false
set_option linter.unusedSimpArgs false
open Go.RowKit
/-- How a round of a loop over a string ends. -/
def strL (I : Nat → FS → Prop) (pos : Nat) (R : AEx → FS → Prop) : AEx → FS → Prop
  | .normal, s => I pos s
  | x, s => R x s
@[go_sem] theorem strL_normal {I : Nat → FS → Prop} {pos : Nat} {R : AEx → FS → Prop} {s : FS} : strL I pos R .normal s = I pos s := rfl
@[go_sem] theorem strL_exit {I : Nat → FS → Prop} {pos : Nat} {R : AEx → FS → Prop} {s : FS} {i : Nat} : strL I pos R (.exit i) s = R (.exit i) s := rfl
@[go_sem] theorem strL_ret {I : Nat → FS → Prop} {pos : Nat} {R : AEx → FS → Prop} {s : FS} : strL I pos R .ret s = R .ret s := rfl
@[go_sem] theorem strL_panic {I : Nat → FS → Prop} {pos : Nat} {R : AEx → FS → Prop} {s : FS} {v : AV} : strL I pos R (.panic v) s = R (.panic v) s := rfl
section
variable {P : Program} {tab : Tab} {w0 : Base} {ro : Option Nat} {p : List Nat}

theorem Sim.addτ {G : Gh} {H : Hp} {w : World} (h : Sim w0 G H w) {id : Id} (hid : G.τ id = none) (hH : H id ≠ some .tok) (x : Option (Nat × Nat × Nat × TypeId)) : Sim w0 (G.withτ id x) H w := by
  have hle := Gh.le_withτ (x := x) hid
  have hold : ∀ i, i ≠ id → (G.withτ id x).τ i = G.τ i := fun i hi => by simp [Gh.withτ, hi]
  have hne : ∀ i, H i = some .tok → i ≠ id := fun i e he => hH (by rw [← he]; exact e)
  refine ⟨h.c, fun i b e => ?_, h.d, fun i e => ?_, h.inj, fun i j b x y hi hj ei ej => ?_, fun i j b x hi hj e => ?_, h.below, h.g.trans hle, fun b L e => ?_⟩
  · obtain ⟨h1, cs, T, h2, h3, h4, h5⟩ := h.v i b e
    exact ⟨h1, cs, T, h2, h3, h4, fun avs ha => RepL.mono hle _ _ (h5 avs ha)⟩
  · rw [hold i (hne i e)]
    exact h.t i e
  · rw [hold i (hne i hi)] at ei
    rw [hold j (hne j hj)] at ej
    exact h.tinj i j b x y hi hj ei ej
  · rw [hold j (hne j hj)] at e
    exact h.vt i j b x hi hj e
  · obtain ⟨r1, o, r2, r3, r4⟩ := h.r b L e
    exact ⟨r1, o, r2, r3, fun x hx => (r4 x hx).later (fun i hi => by
      by_cases he : i = id
      · subst he; simp [Gh.withτ]
      · rw [hold i he]; exact hi) fun i hi e => e⟩

/-- What is pinned at a block is another thing now. -/
theorem Sim.repin {G : Gh} {H : Hp} {w : World} (h : Sim w0 G H w) {b : Nat} {o o' : Obj} (hb : w.heap[b]? = some o) (hn : ∀ cs T f, o ≠ .cells cs T f) (hn' : ∀ cs T f, o' ≠ .cells cs T f) (h0 : w0.heap.size ≤ b) (hρ0 : w0.G.ρ b = none) :
    Sim w0 { G with ρ := fun c => if c = b then some [(none, o')] else G.ρ c } H (w.putObj b o') := by
  have q1 : Sim w0 { G with ρ := fun c => if c = b then none else G.ρ c } H w := by
    refine ⟨h.c, fun i c e => ?_, h.d, h.t, h.inj, h.tinj, h.vt, h.below, ⟨h.g.C, h.g.σ, h.g.τ, fun c L e => ?_⟩, fun c L e => ?_⟩
    · obtain ⟨h1, cs, T, h2, h3, h4, h5⟩ := h.v i c e
      exact ⟨h1, cs, T, h2, h3, h4, fun avs ha => rep_noρ (h5 avs ha)⟩
    · simp only
      split
      · rename_i hc; subst hc; rw [hρ0] at e; cases e
      · exact h.g.ρ c L e
    · simp only at e
      split at e
      · cases e
      · exact h.r c L e
  have hlt := (Array.getElem?_eq_some_iff.1 hb).1
  have q2 := q1.putObj (o' := o') hb hn h0 hn' (fun L e => by simp at e)
  have q3 := q2.pin (D := b) (o := o') (L := [(none, o')]) (World.putObj_heap_same hlt) hn' h0 (.inl hρ0) (by simp [pinned])
  have e : (fun c => if c = b then some [((none : Option Id), o')] else if c = b then none else G.ρ c) = fun c => if c = b then some [(none, o')] else G.ρ c := by
    funext c
    split <;> rfl
  simp only [e] at q3
  exact q3

theorem range_run {o : Oper} {x : Operand} {tt : TypeId} {a : Act} {w : World} {s : ByteArray} {a1 a2 : Nat} {z : Value} (hT : TabOk P tab) (ho : o.op = .range tt x) (htt : tab tt = some ⟨.string, a1, a2, z⟩) (hx : a.eval x = .string s) :
    (execOp a.eval o).run P w = .ok (.value (.pointer (some ⟨w.heap.size, 0, none⟩))) (w.alloc (.stringIter s 0)) := by
  have hu := hT.str htt
  simp only [execOp, ho, hx, Instr.range, Sem.run_bind, run_underlying hu, Result.andThen_ok, Sem.run_pure]
  simp [go_sem]
theorem run_getObj_str {w : World} {b pos : Nat} {s : ByteArray} (h : w.heap[b]? = some (.stringIter s pos)) : (getObj b).run P w = .ok (.stringIter s pos) w := by simp [getObj, Sem.run, h]
theorem run_setObj_str {w : World} {b pos : Nat} {s : ByteArray} (o : Obj) (h : w.heap[b]? = some (.stringIter s pos)) : (setObj b o).run P w = .ok () (w.putObj b o) := by simp [setObj, Sem.run, h, World.putObj]
theorem next_run {o : Oper} {x : Operand} {a : Act} {w : World} {s : ByteArray} {b pos : Nat} (ho : o.op = .next x true) (hx : a.eval x = .pointer (some ⟨b, 0, none⟩)) (hb : w.heap[b]? = some (.stringIter s pos)) :
    (execOp a.eval o).run P w = if pos < s.size then .ok (.value (.tuple #[.bool true, .int .i64 pos, .int .i32 (Utf8.decode s pos).1])) (w.putObj b (.stringIter s (pos + (Utf8.decode s pos).2))) else .ok (.value (.tuple #[.bool false])) w := by
  simp only [execOp, ho, hx, Instr.next, Sem.run_bind, run_getObj_str hb, Result.andThen_ok]
  split
  · rename_i h
    simp only [Sem.run_bind, run_setObj_str _ hb, Result.andThen_ok, Sem.run_pure, goInt]
  · simp only [Sem.run_pure, Result.andThen_ok]
theorem decode_pos (s : ByteArray) (i : Nat) : 1 ≤ (Utf8.decode s i).2 := by
  unfold Utf8.decode
  simp only
  (repeat' split) <;> simp

theorem wpIn_one {ops : Array Oper} {Q : Exit → Act → World → Prop} {o : Oper} {i : Nat} {rest : List Nat} {a : Act} {w w' : World} {V : Value} (hi : ops[i]? = some o) (hg : o.guard = none) (hd : ∀ c, o.op ≠ .defer c) (hr : (execOp a.eval o).run P w = .ok (.value V) w')
    (h : wpOpsIn (fz ro) 0 P ops Q rest (a.put o.dst V) w') : wpOpsIn (fz ro) 0 P ops Q (i :: rest) a w := by
  rw [wpOpsIn_cons]
  unfold wpOpIn
  have hw : Region.wanted o (yielded ops a.tmps) = true := by simp [Region.wanted, hg]
  simp only [hi, hw, if_true]
  refine wpIn_of_wp hd ?_
  unfold Oper.wp
  rw [hr]
  exact h

/-- A loop over the characters of a string: what holds at its head, at each place in the string. -/
theorem strRange {Sp : Spec} {mb : List Tmp} (hT : TabOk P tab) (hS : SpecOk P w0 Sp) (hm : P.follows .mixedOrders = true) {i1 i2 B d1 d2 d3 d4 : Nat} {o1 o2 n1 n2 : Oper} {x : Operand} {tt : TypeId} {body : Code} {s : ByteArray} {a1 a2 : Nat} {z : Value} {t : List AV} {n : Nat} {H : Hp} {R : AEx → FS → Prop}
    (ho1 : o1.op = .move x) (hd1 : o1.dst = some d1) (hg1 : o1.guard = none) (ho2 : o2.op = .range tt (.tmp d1)) (hd2 : o2.dst = some d2) (hg2 : o2.guard = none) (htt : tab tt = some ⟨.string, a1, a2, z⟩)
    (hn1 : n1.op = .next (.tmp d2) true) (hd3 : n1.dst = some d3) (hg3 : n1.guard = none) (hn2 : n2.op = .extract (.tmp d3) 0) (hd4 : n2.dst = some d4) (hg4 : n2.guard = none) (hx : evA t x = .str s) (hl1 : d1 < t.length)
    (I : Nat → FS → Prop) (h0 : I 0 ⟨(t.set d1 (.str s)).set d2 (.iter ⟨0, 0 :: n :: p, 0⟩), n + 1, H⟩)
    (hI : ∀ pos st, I pos st → st.tmps.getD d2 AV.undef = .iter ⟨0, 0 :: n :: p, 0⟩ ∧ d3 < st.tmps.length ∧ d4 < st.tmps.length)
    (hgo : ∀ pos st, pos < s.size → I pos st → vc P tab Sp w0 ro mb p body ⟨(st.tmps.set d3 (.tup [.bool true, .int .i64 pos, .int .i32 (Utf8.decode s pos).1])).set d4 (.bool true), st.n + 1, st.H⟩ (strL I (pos + (Utf8.decode s pos).2) (blkL B R)))
    (hend : ∀ pos st, s.size ≤ pos → I pos st → R .normal ⟨(st.tmps.set d3 (.tup [.bool false])).set d4 (.bool false), st.n + 1, st.H⟩) :
    DetOk P w0 ro p (.seq (.region i1 #[o1, o2] false) (.block B (.loop (.seq (.region i2 #[n1, n2] false) (.seq (.cond (.tmp d4) .skip (.exit B)) body))))) ⟨t, n, H⟩ R := by
  obtain ⟨id, hid⟩ : ∃ id : Id, id = ⟨0, 0 :: n :: p, 0⟩ := ⟨_, rfl⟩
  rw [← hid] at h0 hI
  -- a round and those behind it
  have go : ∀ m pos st, s.size - pos < m → I pos st → ∃ y s', blockR B R y s' ∧ ∀ (G0 : D0) (Gb G : Gh) (w : World) (a : Act) (b : Nat) (sb : FS) (Qc : Exit → Act → World → Prop), Bears P w0 p sb (eqR y s') G0 Gb Qc → Gb.Le G → NewF p sb.n Gb G → sb.n ≤ st.n → Gb.ρ b = none → w0.heap.size ≤ b →
      Sim w0 G st.H w → RepL G st.tmps a.tmps.toList → FreshFrom G p st.n → DefOk G0 G a.defers → G0.g.Le Gb → w0.G.Le Gb → G.τ id = some (some (b, 0, 0, 0)) → G.ρ b = some [(none, .stringIter s pos)] →
      Code.roundsIn (fz ro) 0 P (.seq (.region i2 #[n1, n2] false) (.seq (.cond (.tmp d4) .skip (.exit B)) body)) Qc m a w := by
    intro m
    induction m with
    | zero => intro pos st h; omega
    | succ m ih =>
      intro pos st hm' hst
      obtain ⟨hid2, hl3, hl4⟩ := hI pos st hst
      have start : ∀ (G : Gh) (w : World) (a : Act) (b : Nat), Sim w0 G st.H w → RepL G st.tmps a.tmps.toList → G.τ id = some (some (b, 0, 0, 0)) → G.ρ b = some [(none, .stringIter s pos)] → a.eval (.tmp d2) = .pointer (some ⟨b, 0, none⟩) ∧ w.heap[b]? = some (.stringIter s pos) := fun G w a b hs hr hτ hρ => by
        have h1 := rep_eval hr (.tmp d2)
        simp only [evA, hid2, Rep] at h1
        obtain ⟨b', e1, e2⟩ := h1
        rw [hτ] at e1
        cases e1
        obtain ⟨_, o, h2, _, h3⟩ := hs.r b _ hρ
        have := h3 _ (List.mem_singleton.2 rfl)
        simp only [pinned] at this
        rw [this] at h2
        exact ⟨e2, h2⟩
      by_cases hp : pos < s.size
      · -- one more
        have hw1 := decode_pos s pos
        obtain ⟨y1, s1, h1, h2⟩ := vc_det hT hS hm _ _ _ (hgo pos st hp hst)
        have common : ∀ (y : AEx) (s' : FS) (cont : ∀ (G0 : D0) (Gb G : Gh) (w : World) (a : Act) (b : Nat) (sb : FS) (Qc : Exit → Act → World → Prop), Bears P w0 p sb (eqR y s') G0 Gb Qc → Gb.Le G → NewF p sb.n Gb G → sb.n ≤ st.n + 1 → Gb.ρ b = none → w0.heap.size ≤ b → G0.g.Le Gb → w0.G.Le Gb → G.τ id = some (some (b, 0, 0, 0)) → G.ρ b = some [(none, .stringIter s (pos + (Utf8.decode s pos).2))] →
            ∀ G2 w2 a2, G.Le G2 → NewF p (st.n + 1) G G2 → Sim w0 G2 s1.H w2 → RepT G2 y1 s1.tmps a2.tmps → DefOk G0 G2 a2.defers → FreshFrom G2 p s1.n → st.n + 1 ≤ s1.n → ∀ X, y1.conc G2 X → Exit.then (Code.roundsIn (fz ro) 0 P (.seq (.region i2 #[n1, n2] false) (.seq (.cond (.tmp d4) .skip (.exit B)) body)) Qc m) Qc X a2 w2),
            ∀ (G0 : D0) (Gb G : Gh) (w : World) (a : Act) (b : Nat) (sb : FS) (Qc : Exit → Act → World → Prop), Bears P w0 p sb (eqR y s') G0 Gb Qc → Gb.Le G → NewF p sb.n Gb G → sb.n ≤ st.n → Gb.ρ b = none → w0.heap.size ≤ b →
      Sim w0 G st.H w → RepL G st.tmps a.tmps.toList → FreshFrom G p st.n → DefOk G0 G a.defers → G0.g.Le Gb → w0.G.Le Gb → G.τ id = some (some (b, 0, 0, 0)) → G.ρ b = some [(none, .stringIter s pos)] →
      Code.roundsIn (fz ro) 0 P (.seq (.region i2 #[n1, n2] false) (.seq (.cond (.tmp d4) .skip (.exit B)) body)) Qc (m + 1) a w := by
          intro y s' cont G0 Gb G w a b sb Qc hB hle hnw hsn hb0 hbs hs hr hf hd hg0 hgw hτ hρ
          obtain ⟨e1, e2⟩ := start G w a b hs hr hτ hρ
          rw [roundsIn_succ]
          refine wpIn_seq (wpIn_region ?_)
          have hrun1 := next_run (P := P) hn1 e1 e2
          rw [if_pos hp] at hrun1
          refine wpIn_one (o := n1) (i := 0) (rest := [1]) rfl hg3 (fun c hc => by rw [hn1] at hc; cases hc) hrun1 ?_
          have hrun2 : (execOp (a.put n1.dst (.tuple #[.bool true, .int .i64 pos, .int .i32 (Utf8.decode s pos).1])).eval n2).run P (w.putObj b (.stringIter s (pos + (Utf8.decode s pos).2))) = .ok (.value (.bool true)) (w.putObj b (.stringIter s (pos + (Utf8.decode s pos).2))) := by
            have hla : d3 < a.tmps.size := by have := hr.size; omega
            have : (a.put n1.dst (.tuple #[.bool true, .int .i64 pos, .int .i32 (Utf8.decode s pos).1])).eval (.tmp d3) = .tuple #[.bool true, .int .i64 pos, .int .i32 (Utf8.decode s pos).1] := by
              simp [hd3, Act.put, Act.eval, hla]
            simp only [execOp, hn2, this]
            simp [Instr.extract, go_sem]
          refine wpIn_one (o := n2) (i := 1) (rest := []) rfl hg4 (fun c hc => by rw [hn2] at hc; cases hc) hrun2 ?_
          -- the ghost's turn
          have hρ0 : w0.G.ρ b = none := by
            cases e : w0.G.ρ b with
            | none => rfl
            | some L => have := hgw.ρ _ _ e; rw [hb0] at this; cases this
          have hs1 := hs.repin (o' := .stringIter s (pos + (Utf8.decode s pos).2)) e2 (by simp) (by simp) hbs hρ0
          obtain ⟨G1, hG1⟩ : ∃ G1 : Gh, G1 = { G with ρ := fun c => if c = b then some [((none : Option Id), Obj.stringIter s (pos + (Utf8.decode s pos).2))] else G.ρ c } := ⟨_, rfl⟩
          rw [← hG1] at hs1
          have hleb : Gb.Le G1 := by
            rw [hG1]
            refine ⟨hle.C, hle.σ, hle.τ, fun c L e => ?_⟩
            simp only
            split
            · rename_i hc; subst hc; rw [hb0] at e; cases e
            · exact hle.ρ c L e
          have hr1 : RepL G1 ((st.tmps.set d3 (.tup [.bool true, .int .i64 pos, .int .i32 (Utf8.decode s pos).1])).set d4 (.bool true)) ((a.put n1.dst (.tuple #[.bool true, .int .i64 pos, .int .i32 (Utf8.decode s pos).1])).put n2.dst (.bool true)).tmps.toList := by
            have hr0 : RepL G1 st.tmps a.tmps.toList := by rw [hG1]; exact rep_noρ hr
            have := rep_put (rep_put hr0 (show Rep G1 (.tup [.bool true, .int .i64 pos, .int .i32 (Utf8.decode s pos).1]) (.tuple #[.bool true, .int .i64 pos, .int .i32 (Utf8.decode s pos).1]) by simp [Rep, RepL]) n1.dst) (show Rep G1 (.bool true) (.bool true) by simp [Rep]) n2.dst
            simpa [putA, hd3, hd4] using this
          have hd' : DefOk G0 G1 ((a.put n1.dst (.tuple #[.bool true, .int .i64 pos, .int .i32 (Utf8.decode s pos).1])).put n2.dst (.bool true)).defers := by
            rw [put_defers', put_defers']
            obtain ⟨q1, Ds, q2, q3, q4⟩ := hd
            refine ⟨hg0.trans hleb, Ds, q2, q3, fun D hD => ⟨?_, (q4 D hD).2⟩⟩
            have hDb : D ≠ b := fun e => by
              have := (q4 D hD).1
              rw [e, hρ] at this
              simp at this
            rw [hG1]
            simp only [if_neg hDb]
            exact (q4 D hD).1
          have hf1 : FreshFrom G1 p (st.n + 1) := fun k hk i hi => by rw [hG1]; exact hf k (by omega) i hi
          have hn1' : NewF p sb.n Gb G1 := fun i hi => by rw [hG1]; exact hnw i hi
          show Exit.then _ _ Exit.normal _ _
          show (Code.seq _ _).wpIn (fz ro) 0 P _ _ _
          have hcond : ((a.put n1.dst (.tuple #[.bool true, .int .i64 pos, .int .i32 (Utf8.decode s pos).1])).put n2.dst (.bool true)).eval (.tmp d4) = .bool true := by
            have hla : d4 < a.tmps.size := by have := hr.size; omega
            have hsz : d4 < (a.put n1.dst (.tuple #[.bool true, .int .i64 pos, .int .i32 (Utf8.decode s pos).1])).tmps.size := by simpa [hd3, Act.put] using hla
            simp [hd4, Act.put, Act.eval, hd3]
            intro h
            omega
          refine wpIn_seq (wpIn_cond_true hcond (wpIn_skip ?_))
          show body.wpIn (fz ro) 0 P _ _ _
          have hτ1 : G1.τ id = some (some (b, 0, 0, 0)) := by rw [hG1]; exact hτ
          have hρ1 : G1.ρ b = some [(none, .stringIter s (pos + (Utf8.decode s pos).2))] := by rw [hG1]; simp
          refine h2 G0 G1 _ _ hs1 hr1 hf1 hd' _ ?_
          rintro y2 s2 G2 w2 a2 ⟨rfl, rfl⟩ k1 k2 k3 k4 k5 k6 k7 X k8
          exact cont G0 Gb G1 w a b sb Qc hB hleb hn1' (by omega) hb0 hbs hg0 hgw hτ1 hρ1 G2 w2 a2 k1 k2 k3 k4 k5 k6 k7 X k8
        cases y1 with
        | normal =>
          obtain ⟨y, s', g1, g2⟩ := ih (pos + (Utf8.decode s pos).2) s1 (by omega) h1
          refine ⟨y, s', g1, common y s' fun G0 Gb G w a b sb Qc hB hle hnw hsn hb0 hbs hg0 hgw hτ hρ G2 w2 a2 k1 k2 k3 k4 k5 k6 k7 X k8 => ?_⟩
          cases k8
          exact g2 G0 Gb G2 w2 a2 b sb Qc hB (hle.trans k1) (hnw.trans k2 hsn) (by omega) hb0 hbs k3 k4 k6 k5 hg0 hgw (k1.τ _ _ hτ) (k1.ρ _ _ hρ)
        | exit j =>
          refine ⟨.exit j, s1, h1, common _ _ fun G0 Gb G w a b sb Qc hB hle hnw hsn hb0 hbs hg0 hgw hτ hρ G2 w2 a2 k1 k2 k3 k4 k5 k6 k7 X k8 => ?_⟩
          cases k8
          exact hB (.exit j) s1 G2 w2 a2 ⟨rfl, rfl⟩ (hle.trans k1) (hnw.trans k2 hsn) k3 k4 k5 k6 (by omega) _ rfl
        | ret =>
          refine ⟨.ret, s1, h1, common _ _ fun G0 Gb G w a b sb Qc hB hle hnw hsn hb0 hbs hg0 hgw hτ hρ G2 w2 a2 k1 k2 k3 k4 k5 k6 k7 X k8 => ?_⟩
          cases k8
          exact hB .ret s1 G2 w2 a2 ⟨rfl, rfl⟩ (hle.trans k1) (hnw.trans k2 hsn) k3 k4 k5 k6 (by omega) _ rfl
        | panic v =>
          refine ⟨.panic v, s1, h1, common _ _ fun G0 Gb G w a b sb Qc hB hle hnw hsn hb0 hbs hg0 hgw hτ hρ G2 w2 a2 k1 k2 k3 k4 k5 k6 k7 X k8 => ?_⟩
          obtain ⟨V, rfl, hV⟩ := k8
          exact hB (.panic v) s1 G2 w2 a2 ⟨rfl, rfl⟩ (hle.trans k1) (hnw.trans k2 hsn) k3 k4 k5 k6 (by omega) _ ⟨V, rfl, hV⟩
      · -- the end
        refine ⟨.exit B, _, by simp only [blockR, if_true]; exact hend pos st (by omega) hst, ?_⟩
        intro G0 Gb G w a b sb Qc hB hle hnw hsn hb0 hbs hs hr hf hd hg0 hgw hτ hρ
        obtain ⟨e1, e2⟩ := start G w a b hs hr hτ hρ
        rw [roundsIn_succ]
        refine wpIn_seq (wpIn_region ?_)
        have hrun1 := next_run (P := P) hn1 e1 e2
        rw [if_neg hp] at hrun1
        refine wpIn_one (o := n1) (i := 0) (rest := [1]) rfl hg3 (fun c hc => by rw [hn1] at hc; cases hc) hrun1 ?_
        have hla3 : d3 < a.tmps.size := by have := hr.size; omega
        have hla4 : d4 < a.tmps.size := by have := hr.size; omega
        have hrun2 : (execOp (a.put n1.dst (.tuple #[.bool false])).eval n2).run P w = .ok (.value (.bool false)) w := by
          have : (a.put n1.dst (.tuple #[.bool false])).eval (.tmp d3) = .tuple #[.bool false] := by
            simp [hd3, Act.put, Act.eval, hla3]
          simp only [execOp, hn2, this]
          simp [Instr.extract, go_sem]
        refine wpIn_one (o := n2) (i := 1) (rest := []) rfl hg4 (fun c hc => by rw [hn2] at hc; cases hc) hrun2 ?_
        show Exit.then _ _ Exit.normal _ _
        show (Code.seq _ _).wpIn (fz ro) 0 P _ _ _
        have hcond : ((a.put n1.dst (.tuple #[.bool false])).put n2.dst (.bool false)).eval (.tmp d4) = .bool false := by
          simp [hd4, Act.put, Act.eval, hd3]
          intro h
          omega
        refine wpIn_seq (wpIn_cond_false hcond (wpIn_exit ?_))
        have hr1 : RepL G ((st.tmps.set d3 (.tup [.bool false])).set d4 (.bool false)) ((a.put n1.dst (.tuple #[.bool false])).put n2.dst (.bool false)).tmps.toList := by
          have := rep_put (rep_put hr (show Rep G (.tup [.bool false]) (.tuple #[.bool false]) by simp [Rep, RepL]) n1.dst) (show Rep G (.bool false) (.bool false) by simp [Rep]) n2.dst
          simpa [putA, hd3, hd4] using this
        show Qc (.exit B) _ _
        exact hB (.exit B) ⟨_, st.n + 1, st.H⟩ G w _ ⟨rfl, rfl⟩ hle hnw hs hr1 (by rw [put_defers', put_defers']; exact hd) (fun k hk => hf k (by simp only at hk; omega)) (by simp only; omega) _ rfl
  obtain ⟨y, s', h1, h2⟩ := go (s.size + 1) 0 _ (by omega) h0
  -- the block's end
  obtain ⟨y', hy', hyb⟩ : ∃ y' : AEx, R y' s' ∧ ∀ (G0 : D0) (G : Gh) (sb : FS) (Qc : Exit → Act → World → Prop), Bears P w0 p sb (eqR y' s') G0 G Qc → Bears P w0 p sb (eqR y s') G0 G (Exit.inBlock B Qc) := by
    cases y with
    | normal => exact ⟨.normal, h1, fun G0 G sb Qc hB => by
        rintro z u G' w' a' ⟨rfl, rfl⟩ k1 k2 k3 k4 k5 k6 k7 X k8
        cases k8
        exact hB .normal u G' w' a' ⟨rfl, rfl⟩ k1 k2 k3 k4 k5 k6 k7 _ rfl⟩
    | ret => exact ⟨.ret, h1, fun G0 G sb Qc hB => by
        rintro z u G' w' a' ⟨rfl, rfl⟩ k1 k2 k3 k4 k5 k6 k7 X k8
        cases k8
        exact hB .ret u G' w' a' ⟨rfl, rfl⟩ k1 k2 k3 k4 k5 k6 k7 _ rfl⟩
    | panic v => exact ⟨.panic v, h1, fun G0 G sb Qc hB => by
        rintro z u G' w' a' ⟨rfl, rfl⟩ k1 k2 k3 k4 k5 k6 k7 X k8
        obtain ⟨V, rfl, hV⟩ := k8
        exact hB (.panic v) u G' w' a' ⟨rfl, rfl⟩ k1 k2 k3 k4 k5 k6 k7 _ ⟨V, rfl, hV⟩⟩
    | exit j =>
      simp only [blockR] at h1
      split at h1
      · rename_i he
        exact ⟨.normal, h1, fun G0 G sb Qc hB => by
          rintro z u G' w' a' ⟨rfl, rfl⟩ k1 k2 k3 k4 k5 k6 k7 X k8
          cases k8
          simp only [Exit.inBlock, if_pos he]
          exact hB .normal u G' w' a' ⟨rfl, rfl⟩ k1 k2 k3 k4 k5 k6 k7 _ rfl⟩
      · rename_i he
        exact ⟨.exit j, h1, fun G0 G sb Qc hB => by
          rintro z u G' w' a' ⟨rfl, rfl⟩ k1 k2 k3 k4 k5 k6 k7 X k8
          cases k8
          simp only [Exit.inBlock, if_neg he]
          exact hB (.exit j) u G' w' a' ⟨rfl, rfl⟩ k1 k2 k3 k4 k5 k6 k7 _ rfl⟩
  refine ⟨y', s', hy', fun G0 G w a hs hr hf hd Qc hB => ?_⟩
  refine wpIn_seq (wpIn_region ?_)
  have hv := rep_eval hr x
  rw [hx] at hv
  simp only [Rep] at hv
  have hrun1 : (execOp a.eval o1).run P w = .ok (.value (.string s)) w := by
    simp only [execOp, ho1, hv]
    simp [go_sem]
  refine wpIn_one (o := o1) (i := 0) (rest := [1]) rfl hg1 (fun c hc => by rw [ho1] at hc; cases hc) hrun1 ?_
  have hla : d1 < a.tmps.size := by have h5 := hr.size; simp only at h5; omega
  have hrun2 := range_run (P := P) (a := a.put o1.dst (.string s)) (w := w) (s := s) hT ho2 htt (by simp [hd1, Act.put, Act.eval, hla])
  refine wpIn_one (o := o2) (i := 1) (rest := []) rfl hg2 (fun c hc => by rw [ho2] at hc; cases hc) hrun2 ?_
  have hfr := hf n (Nat.le_refl _) id (by rw [hid]; exact List.suffix_cons _ _)
  have hρn : G.ρ w.heap.size = none := by
    cases e : G.ρ w.heap.size with
    | none => rfl
    | some L =>
      obtain ⟨_, o, h2, _⟩ := hs.r _ L e
      have := (Array.getElem?_eq_some_iff.1 h2).1
      omega
  have hρ0 : w0.G.ρ w.heap.size = none := by
    cases e : w0.G.ρ w.heap.size with
    | none => rfl
    | some L => have := hs.g.ρ _ _ e; rw [hρn] at this; cases this
  have hbase := hs.base
  have hHid : H id ≠ some .tok := fun e => by
    rcases hs.t id e with g | ⟨b, mm, c, T, cs, g, _⟩
    · rw [hfr.2] at g; cases g
    · rw [hfr.2] at g; cases g
  have q1 : Sim w0 G H (w.alloc (.stringIter s 0)) := hs.alloc _
  have hnew : (w.alloc (.stringIter s 0)).heap[w.heap.size]? = some (.stringIter s 0) := World.alloc_heap_new w _
  have q2 := (q1.addτ hfr.2 hHid (some (w.heap.size, 0, 0, 0))).pin (D := w.heap.size) (o := .stringIter s 0) (L := [(none, .stringIter s 0)]) hnew (by simp) hbase (.inl hρ0) (by simp [pinned])
  obtain ⟨G1, hG1⟩ : ∃ G1 : Gh, G1 = { G.withτ id (some (w.heap.size, 0, 0, 0)) with ρ := fun b => if b = w.heap.size then some [((none : Option Id), Obj.stringIter s 0)] else (G.withτ id (some (w.heap.size, 0, 0, 0))).ρ b } := ⟨_, rfl⟩
  rw [← hG1] at q2
  have hle : G.Le G1 := by
    rw [hG1]
    refine ⟨fun _ _ h => h, fun _ _ h => h, (Gh.le_withτ hfr.2).τ, fun c L e => ?_⟩
    simp only
    split
    · rename_i hc; subst hc; rw [hρn] at e; cases e
    · exact e
  have hτ1 : G1.τ id = some (some (w.heap.size, 0, 0, 0)) := by rw [hG1]; simp [Gh.withτ]
  have hρ1 : G1.ρ w.heap.size = some [(none, .stringIter s 0)] := by rw [hG1]; simp
  have hoth : ∀ i, i ≠ id → G1.τ i = G.τ i := fun i hi => by rw [hG1]; simp [Gh.withτ, hi]
  have hσ1 : ∀ i, G1.σ i = G.σ i := fun i => by rw [hG1]; rfl
  have hidk : (n :: p) <:+ id.key := by rw [hid]; exact List.suffix_cons _ _
  have hr1 : RepL G1 ((t.set d1 (.str s)).set d2 (.iter id)) ((a.put o1.dst (.string s)).put o2.dst (.pointer (some ⟨w.heap.size, 0, none⟩))).tmps.toList := by
    have := rep_put (rep_put (RepL.mono hle _ _ hr) (show Rep G1 (.str s) (.string s) by simp [Rep]) o1.dst) (show Rep G1 (.iter id) (.pointer (some ⟨w.heap.size, 0, none⟩)) by simp only [Rep]; exact ⟨_, hτ1, rfl⟩) o2.dst
    simpa [putA, hd1, hd2] using this
  show Exit.then _ _ Exit.normal _ _
  show (Code.block _ _).wpIn (fz ro) 0 P _ _ _
  refine wpIn_block (wpIn_loop_rounds (s.size + 1) ?_)
  have hB1 : Bears P w0 p ⟨t, n, H⟩ (eqR y s') G0 { G1 with ρ := G.ρ } (Exit.inBlock B Qc) := by
    refine fun z u G' w' a' k0 k1 k2 k3 k4 k5 k6 k7 X k8 => hyb G0 G ⟨t, n, H⟩ Qc hB z u G' w' a' k0 ⟨fun c v e => k1.C c v (hle.C c v e), fun c v e => k1.σ c v (hle.σ c v e), fun c v e => k1.τ c v (hle.τ c v e), fun c v e => k1.ρ c v e⟩ (fun i hi => ?_) k3 k4 k5 k6 k7 X k8
    have g1 := k2 i hi
    have hne : i ≠ id := fun e => hi ⟨n, Nat.le_refl _, by rw [e]; exact hidk⟩
    exact ⟨g1.1.trans (hσ1 i), g1.2.trans (hoth i hne)⟩
  refine h2 G0 { G1 with ρ := G.ρ } G1 _ _ w.heap.size ⟨t, n, H⟩ _ hB1 ⟨fun _ _ h => h, fun _ _ h => h, fun _ _ h => h, fun c L e => hle.ρ c L e⟩ (fun i hi => ⟨rfl, rfl⟩) (Nat.le_succ n) hρn hbase q2 hr1 (fun k hk i hi => ?_) ?_ ?_ ?_ hτ1 hρ1
  · have hne : i ≠ id := fun e => by
      rw [e, hid] at hi
      have h3 : (n :: p) <:+ (0 :: n :: p) := List.suffix_cons _ _
      have := (List.suffix_of_suffix_length_le hi h3 (by simp)).eq_of_length (by simp)
      simp only [List.cons.injEq, and_true] at this
      simp only at hk
      omega
    rw [hσ1, hoth i hne]
    exact hf k (by simp only at hk ⊢; omega) i hi
  · rw [put_defers', put_defers']
    exact hd.later hle
  · exact ⟨fun c v e => hle.C c v (hd.1.C c v e), fun c v e => hle.σ c v (hd.1.σ c v e), fun c v e => hle.τ c v (hd.1.τ c v e), fun c L e => hd.1.ρ c L e⟩
  · exact ⟨fun c v e => hle.C c v (hs.g.C c v e), fun c v e => hle.σ c v (hs.g.σ c v e), fun c v e => hle.τ c v (hs.g.τ c v e), fun c L e => hs.g.ρ c L e⟩
end
end Go.Proofs.YtkdendaohlnlcaaGreatDoor.Av

/- Bodies of which a part is shown by hand; the bytes of a constant text. No condition. -/
namespace Go.Proofs.YtkdendaohlnlcaaGreatDoor.Av
set_option linter.unusedVariables false
set_option linter.unusedSimpArgs false
open Go.RowKit
/-- Behind a text's normal end another one. -/
def cutL (P : Program) (w0 : Base) (ro : Option Nat) (p : List Nat) (b : Code) (R : AEx → FS → Prop) : AEx → FS → Prop := thenR (fun s' => CodeOk P w0 ro p b s' R) R
section
variable {P : Program} {tab : Tab} {Sp : Spec} {w0 : Base} {ro : Option Nat} {p k : List Nat} {R : AEx → FS → Prop} {b : Code} {s : FS}
@[go_sem] theorem cutL_normal : cutL P w0 ro p b R .normal s = CodeOk P w0 ro p b s R := rfl
@[go_sem] theorem cutL_ret : cutL P w0 ro p b R .ret s = R .ret s := rfl
@[go_sem] theorem cutL_exit {i : Nat} : cutL P w0 ro p b R (.exit i) s = R (.exit i) s := rfl
@[go_sem] theorem cutL_panic {v : AV} : cutL P w0 ro p b R (.panic v) s = R (.panic v) s := rfl
theorem CodeOk.cut (hT : TabOk P tab) (hS : SpecOk P w0 Sp) (hm : P.follows .mixedOrders = true) (mb : List Tmp) {a : Code} (h : vc P tab Sp w0 ro mb p a s (cutL P w0 ro p b R)) : CodeOk P w0 ro p (.seq a b) s R := CodeOk.seq (vc_det hT hS hm _ _ _ h).code
theorem CodeOk.cut2 (hT : TabOk P tab) (hS : SpecOk P w0 Sp) (hm : P.follows .mixedOrders = true) (mb : List Tmp) {a : Code} (h : CodeOk P w0 ro p a s (cutL P w0 ro p b R)) : CodeOk P w0 ro p (.seq a b) s R := CodeOk.seq h
theorem CodeOk.vc (hT : TabOk P tab) (hS : SpecOk P w0 Sp) (hm : P.follows .mixedOrders = true) (mb : List Tmp) {a : Code} (h : Av.vc P tab Sp w0 ro mb p a s R) : CodeOk P w0 ro p a s R := (vc_det hT hS hm _ _ _ h).code
theorem callC (hT : TabOk P tab) {f : FuncId} {fn : Func} {c : Code} {args : List AV} {H H' : Hp} {o : Out} (hf : P.funcs[f]? = some fn) (hb : fn.body = some c) (hn : (fn.name == "runtime.NumGoroutine") = false)
    {rs : List ResultVar} {nt : Nat} (hrs : fn.results = rs.toArray) (hnt : fn.ntmps = nt) (ha : args.length ≤ nt)
    (h : (∀ i : Id, k <:+ i.key → H i = none) → ∀ t, t.length = nt → At t 0 args → CodeOk P w0 none k c ⟨t, 0, H⟩ (endO tab rs o H')) : CallO P w0 k f args H H' o :=
  (callO_of_code hT hf hb hn hrs hnt fun hfr => h hfr _ (by simp; omega) (at_prefix _ [] args)).call

/-- The bytes of a constant text, as a list. -/
theorem bytesLit (hT : TabOk P tab) {id d1 d2 d3 d4 : Nat} {o1 o2 o3 o4 : Oper} {t e n0 : Nat} {cs : List Int} {parts : Array (Nat × Operand)} {ts : List AV} {n : Nat} {H : Hp}
    (hte : tab t = some ⟨.slice e, n0, 24, .slice none 0 0⟩) (he : tab e = some ⟨.int .u8, 1, 1, .int .u8 0⟩)
    (ho1 : o1.op = .buildSlice t cs.length parts) (hd1 : o1.dst = some d1) (hg1 : o1.guard = none) (ho2 : o2.op = .convert t t (.tmp d1)) (hd2 : o2.dst = some d2) (hg2 : o2.guard = none)
    (ho3 : o3.op = .call ⟨.builtin .len, #[.tmp d2], #[t]⟩) (hd3 : o3.dst = some d3) (hg3 : o3.guard = none) (ho4 : o4.op = .move (.const (.int .i64 0))) (hd4 : o4.dst = some d4) (hg4 : o4.guard = none)
    (hl1 : d1 < ts.length) (hl2 : d2 < ts.length)
    (hrun : ∀ (a : Act) (w : World), (execOp a.eval o1).run P w = .ok (.value (.slice (some ⟨w.heap.size, 0, none⟩) cs.length cs.length)) (w.alloc (.cells (cs.map fun c => Value.int .u8 c).toArray e)))
    (h : R .normal ⟨(((ts.set d1 (.list .none (cs.map fun c => [.int .u8 c]))).set d2 (.list .none (cs.map fun c => [.int .u8 c]))).set d3 (.int .i64 cs.length)).set d4 (.int .i64 0), n + 1, H⟩) :
    CodeOk P w0 ro p (.region id #[o1, o2, o3, o4] false) ⟨ts, n, H⟩ R := by
  intro G0 G w a hs hr hf hd Qc hB
  refine wpIn_region ?_
  have hsz := hr.size
  simp only at hsz
  refine wpIn_one (o := o1) (i := 0) (rest := [1, 2, 3]) rfl hg1 (fun c hc => by rw [ho1] at hc; cases hc) (hrun a w) ?_
  have hev1 : (a.put o1.dst (.slice (some ⟨w.heap.size, 0, none⟩) cs.length cs.length)).eval (.tmp d1) = .slice (some ⟨w.heap.size, 0, none⟩) cs.length cs.length := by
    simp [hd1, Act.put, Act.eval, show d1 < a.tmps.size by omega]
  have hrun2 : (execOp (a.put o1.dst (.slice (some ⟨w.heap.size, 0, none⟩) cs.length cs.length)).eval o2).run P (w.alloc (.cells (cs.map fun c => Value.int .u8 c).toArray e)) =
      .ok (.value (.slice (some ⟨w.heap.size, 0, none⟩) cs.length cs.length)) (w.alloc (.cells (cs.map fun c => Value.int .u8 c).toArray e ((cs.map fun c => Value.int .u8 c).toArray.size, (cs.map fun c => Value.int .u8 c).toArray.size + 1))) := by
    simp only [execOp, ho2, hev1, Sem.run_bind, Lib.run_convert_bytes_const w t e _ _ _ (hT.slice hte) (hT.int he), Result.andThen_ok, Sem.run_pure]
  refine wpIn_one (o := o2) (i := 1) (rest := [2, 3]) rfl hg2 (fun c hc => by rw [ho2] at hc; cases hc) hrun2 ?_
  have hev2 : ((a.put o1.dst (.slice (some ⟨w.heap.size, 0, none⟩) cs.length cs.length)).put o2.dst (.slice (some ⟨w.heap.size, 0, none⟩) cs.length cs.length)).eval (.tmp d2) = .slice (some ⟨w.heap.size, 0, none⟩) cs.length cs.length := by
    simp [hd1, hd2, Act.put, Act.eval, show d2 < a.tmps.size by omega]
  have hV : ∀ (w : World) A, (Builtin.len_ #[t] o3.type #[.slice A cs.length cs.length]).run P w = .ok (.int .i64 cs.length) w := fun w A => by simp [Builtin.len_, run_underlying (hT.slice hte), goInt]
  have hlen3 : ∀ {w' : World}, (execOp ((a.put o1.dst (.slice (some ⟨w.heap.size, 0, none⟩) cs.length cs.length)).put o2.dst (.slice (some ⟨w.heap.size, 0, none⟩) cs.length cs.length)).eval o3).run P w' = .ok (.value (.int .i64 cs.length)) w' := by
    intro w'
    generalize ((a.put o1.dst (.slice (some ⟨w.heap.size, 0, none⟩) cs.length cs.length)).put o2.dst (.slice (some ⟨w.heap.size, 0, none⟩) cs.length cs.length)).eval = ev at hev2 ⊢
    simp [execOp, ho3, resolve, invoke, builtin, hev2, hV]
  refine wpIn_one (o := o3) (i := 2) (rest := [3]) rfl hg3 (fun c hc => by rw [ho3] at hc; cases hc) (V := .int .i64 cs.length) hlen3 ?_
  refine wpIn_one (V := .int .i64 0) (o := o4) (i := 3) (rest := []) rfl hg4 (fun c hc => by rw [ho4] at hc; cases hc) (by simp only [execOp, ho4]; rfl) ?_
  obtain ⟨o, ho⟩ : ∃ o : Obj, o = .cells (cs.map fun c => Value.int .u8 c).toArray e ((cs.map fun c => Value.int .u8 c).toArray.size, (cs.map fun c => Value.int .u8 c).toArray.size + 1) := ⟨_, rfl⟩
  rw [← ho]
  have hnew : (w.alloc o).heap[w.heap.size]? = some o := World.alloc_heap_new w _
  obtain ⟨g, hg⟩ : ∃ g : Addr → Option Value, g = fun a => if a.block = w.heap.size then (w.alloc o).cell? a else none := ⟨_, rfl⟩
  have hs2 : Sim w0 (G.withC g) H (w.alloc o) := (hs.alloc o).withC g (fun a v e => by
      rw [hg] at e
      simp only at e
      split at e
      · exact e
      · cases e) (fun i b e a ha => by
      have := hs.lt_of_σ e
      rw [hg]
      simp only
      rw [if_neg (by omega)]) (fun i b m c T hi e a ha _ => by
      rcases hs.t i hi with h2 | ⟨b', m', c', T', cs', h2, h3, h4, _⟩
      · rw [e] at h2; cases h2
      · rw [e] at h2
        simp only [Option.some.injEq, Prod.mk.injEq] at h2
        have := (Array.getElem?_eq_some_iff.1 h4).1
        rw [hg]
        simp only
        rw [if_neg (by omega)])
  have hcell : ∀ (j : Nat) c, cs[j]? = some c → (G.withC g).C ((⟨w.heap.size, 0, none⟩ : Addr).add j) = some (.int .u8 c) := fun j c hj => by
    have hadd : (⟨w.heap.size, 0, none⟩ : Addr).add j = ⟨w.heap.size, j, none⟩ := by unfold Addr.add; split <;> simp_all
    have hcl : (w.alloc o).cell? ⟨w.heap.size, j, none⟩ = some (.int .u8 c) := by
      unfold World.cell?
      simp only
      rw [hnew, ho]
      simp [hj]
    have hGn : G.C ⟨w.heap.size, j, none⟩ = none := by
      cases e : G.C ⟨w.heap.size, j, none⟩ with
      | none => rfl
      | some v =>
        have := World.block_lt_of_cell? w _ (hs.c _ _ e)
        simp only at this
        omega
    rw [hadd]
    simp only [Gh.withC, hGn, hg, if_true]
    simpa using hcl
  have hrepE : ∀ (l : List Int) (i : Nat), (∀ (j : Nat) c, l[j]? = some c → (G.withC g).C ((⟨w.heap.size, 0, none⟩ : Addr).add (i + j)) = some (.int .u8 c)) → RepE (G.withC g) ⟨w.heap.size, 0, none⟩ i (l.map fun c => [.int .u8 c]) := by
    intro l
    induction l with
    | nil => intro i _; simp [RepE]
    | cons c l ih =>
      intro i hc
      simp only [List.map_cons, RepE, RepC, Rep, and_true]
      refine ⟨⟨_, hc 0 c rfl, rfl⟩, ih (i + 1) fun j d hd => ?_⟩
      have := hc (j + 1) d (by simpa using hd)
      rwa [show i + (j + 1) = i + 1 + j by omega] at this
  have hL : Rep (G.withC g) (.list .none (cs.map fun c => [.int .u8 c])) (.slice (some ⟨w.heap.size, 0, none⟩) cs.length cs.length) := by
    simp only [Rep]
    exact ⟨_, _, _, rfl, by simp, Nat.le_refl _, trivial, ⟨1, by simp⟩, ⟨w.heap.size, 0, none⟩, fun _ => rfl, hrepE cs 0 fun j c hj => by rw [Nat.zero_add]; exact hcell j c hj⟩
  refine hB .normal _ (G.withC g) _ _ h (G.le_withC g) (fun _ _ => ⟨rfl, rfl⟩) hs2 ?_ ?_ (fun m hm => hf m (by simp only at hm ⊢; omega)) (Nat.le_succ _) _ rfl
  · have := rep_put (rep_put (rep_put (rep_put (RepL.mono (G.le_withC g) _ _ hr) hL o1.dst) hL o2.dst) (show Rep (G.withC g) (.int .i64 cs.length) (.int .i64 cs.length) by simp [Rep]) o3.dst) (show Rep (G.withC g) (.int .i64 0) (.int .i64 0) by simp [Rep]) o4.dst
    simp only [hd1, hd2, hd3, hd4] at this ⊢
    exact this
  · rw [put_defers', put_defers', put_defers', put_defers']
    exact hd.later (G.le_withC g)
end
end Go.Proofs.YtkdendaohlnlcaaGreatDoor.Av

/- Is a byte a sign? (The reference's list of signs is a constant text's bytes.) No condition. -/
namespace Go.Proofs.YtkdendaohlnlcaaGreatDoor.Av
set_option linter.unusedVariables false
set_option linter.unusedSimpArgs false
set_option maxRecDepth 4000
set_option maxHeartbeats 1000000
variable {w0 : Base} {k : List Nat} {H : Hp}
def signs : List Int := [40, 41, 44, 61, 33, 62, 38, 124, 64, 63]
def isSign (c : Int) : Bool := signs.any (fun s => s == c)
theorem signs_get {i : Nat} (h : i < 10) : ∃ c, signs[i]? = some c ∧ (signs.map fun c => [AV.int .u8 c]).getD i [] = [.int .u8 c] := by
  have hs : i < signs.length := h
  exact ⟨signs[i], by simp [hs], by simp [List.getD_eq_getElem?_getD, hs]⟩
theorem isSign_call (c : Int) : CallAt Tryz.prog w0 k 124 [.int .u8 c] H H (.bool (isSign c)) := by
  refine callC (o := .ret (.bool (isSign c))) tabOk Tryz.func124 rfl rfl Tryz.results124 Tryz.ntmps124 (by simp) fun hfr t hl ht => ?_
  simp only [At] at ht
  refine CodeOk.cut tabOk Spec.no_ok mixed [] ?_
  simp (config := {contextual := true, maxSteps := 5000000}) only [go_sem, false_and, Nat.reduceAdd, Nat.reduceLT, Nat.reduceBEq, Nat.reduceSub, Nat.reduceMul, Nat.reduceLeDiff, Int.reduceToNat, Nat.reduceEqDiff, Nat.reduceMod, hl, ht]
  refine CodeOk.cut2 tabOk Spec.no_ok mixed [] (CodeOk.seq (bytesLit (cs := signs) tabOk tab_61 tab_5 rfl rfl rfl rfl rfl rfl rfl rfl rfl rfl rfl rfl (by simp [hl]) (by simp [hl]) (fun a w => by kernel_rfl) ?_))
  refine CodeOk.vc tabOk Spec.no_ok mixed [] ?_
  simp (config := {contextual := true, maxSteps := 5000000}) only [go_sem, false_and, Nat.reduceAdd, Nat.reduceLT, Nat.reduceBEq, Nat.reduceSub, Nat.reduceMul, Nat.reduceLeDiff, Int.reduceToNat, Nat.reduceEqDiff, Nat.reduceMod, hl, ht]
  refine loop_inv tabOk Spec.no_ok mixed [] (fun j x => ∃ i : Nat, x.tmps.length = 16 ∧ x.tmps.getD 0 AV.undef = .int .u8 c ∧ x.tmps.getD 6 AV.undef = .list .none (signs.map fun c => [.int .u8 c]) ∧ x.tmps.getD 7 AV.undef = .int .i64 10 ∧ x.tmps.getD 8 AV.undef = .int .i64 i ∧
    x.H = H ∧ i + j = 10 ∧ ∀ i' s, i' < i → signs[i']? = some s → (s == c) = false) 10 ⟨0, ?_⟩ ?_
  · simp (config := {contextual := true, maxSteps := 5000000}) only [go_sem, false_and, Nat.reduceAdd, Nat.reduceLT, Nat.reduceBEq, Nat.reduceSub, Nat.reduceMul, Nat.reduceLeDiff, Int.reduceToNat, Nat.reduceEqDiff, Nat.reduceMod, hl, ht]
    exact ⟨rfl, rfl, fun i' s h => absurd h (by omega)⟩
  · rintro j ⟨t, n, H'⟩ ⟨i, hl, h0, h6, h7, h8, rfl, hij, hno⟩
    simp only at hl h0 h6 h7 h8
    by_cases hi : i < 10
    · have hd : decide ((i : Int) < 10) = true := by simp; omega
      have hw2 : IntKind.i64.wrap ((i : Int) + 1) = ((i + 1 : Nat) : Int) := by rw [wrap_i64] <;> omega
      obtain ⟨s, hs, he⟩ := signs_get hi
      simp (config := {contextual := true, maxSteps := 5000000}) only [go_sem, false_and, Nat.reduceAdd, Nat.reduceLT, Nat.reduceBEq, Nat.reduceSub, Nat.reduceMul, Nat.reduceLeDiff, Int.reduceToNat, Nat.reduceEqDiff, Nat.reduceMod, he, h0, h6, h7, h8, hl, hd, hw2]
      have hsl : signs.length = 10 := rfl
      refine ⟨⟨by omega, by omega⟩, fun a => ⟨_, rfl, ?_⟩, fun a => ⟨j - 1, by omega, i + 1, rfl, by omega, fun i' s' hi' hs' => ?_⟩⟩
      · have : isSign c = true := List.any_eq_true.2 ⟨s, List.mem_of_getElem? hs, a⟩
        rw [this]
        exact Weak.refl _
      · by_cases e : i' = i
        · subst e
          rw [hs] at hs'
          cases hs'
          exact a
        · exact hno i' s' (by omega) hs'
    · have hd : decide ((i : Int) < 10) = false := by simp; omega
      simp (config := {contextual := true, maxSteps := 5000000}) only [go_sem, false_and, Nat.reduceAdd, Nat.reduceLT, Nat.reduceBEq, Nat.reduceSub, Nat.reduceMul, Nat.reduceLeDiff, Int.reduceToNat, Nat.reduceEqDiff, Nat.reduceMod, h0, h6, h7, h8, hl, hd]
      refine CodeOk.vc tabOk Spec.no_ok mixed [] ?_
      simp (config := {contextual := true, maxSteps := 5000000}) only [go_sem, false_and, Nat.reduceAdd, Nat.reduceLT, Nat.reduceBEq, Nat.reduceSub, Nat.reduceMul, Nat.reduceLeDiff, Int.reduceToNat, Nat.reduceEqDiff, Nat.reduceMod, h0, h6, h7, h8, hl, hd]
      refine ⟨_, rfl, ?_⟩
      have : isSign c = false := by
        rw [isSign, List.any_eq_false]
        intro s hs
        obtain ⟨i', hi', rfl⟩ := List.getElem_of_mem hs
        have hsl : signs.length = 10 := rfl
        simpa using hno i' signs[i'] (by omega) (by simp)
      rw [this]
      exact Weak.refl _
end Go.Proofs.YtkdendaohlnlcaaGreatDoor.Av

/- Numbers in texts of formulas. No condition. -/
namespace Go.Proofs.YtkdendaohlnlcaaGreatDoor.Av
set_option linter.unusedVariables false
set_option linter.unusedSimpArgs false
set_option maxRecDepth 4000
set_option maxHeartbeats 1000000
variable {w0 : Base} {k : List Nat} {H : Hp}
def isDig (c : Int) : Bool := decide (48 ≤ c) && decide (c ≤ 57)
theorem isDigit03_call (c : Int) : CallAt Tryz.prog w0 k 157 [.int .u8 c] H H (.bool (isDig c)) := by
  refine callAt tabOk Spec.no_ok mixed Tryz.func157 rfl rfl Tryz.results157 Tryz.ntmps157 (by simp) [] ?_
  intro hfr t hl ht
  simp only [At, Nat.reduceAdd, List.cons_append, List.nil_append] at ht
  simp (config := {contextual := true, maxSteps := 5000000}) only [go_sem, false_and, Nat.reduceAdd, Nat.reduceLT, Nat.reduceBEq, Nat.reduceSub, Nat.reduceMul, Nat.reduceLeDiff, Int.reduceToNat, Nat.reduceEqDiff, Nat.reduceMod, ht, hl]
  simp +contextual [isDig] <;> omega
def most (c : Int) : Int := if c = 120 then 63 else if c = 102 ∨ c = 80 then 99 else -1
def kindOf (c : Int) : Int := if c = 120 then 1 else if c = 102 then 2 else 3
theorem most_call (c : Int) : CallAt Tryz.prog w0 k 125 [.int .u8 c] H H (.int .i64 (most c)) := by
  refine callAt tabOk Spec.no_ok mixed Tryz.func125 rfl rfl Tryz.results125 Tryz.ntmps125 (by simp) [] ?_
  intro hfr t hl ht
  simp only [At, Nat.reduceAdd, List.cons_append, List.nil_append] at ht
  simp (config := {contextual := true, maxSteps := 5000000}) only [go_sem, false_and, Nat.reduceAdd, Nat.reduceLT, Nat.reduceBEq, Nat.reduceSub, Nat.reduceMul, Nat.reduceLeDiff, Int.reduceToNat, Nat.reduceEqDiff, Nat.reduceMod, ht, hl]
  simp +contextual [most] <;> omega
theorem kindOf_call (c : Int) : CallAt Tryz.prog w0 k 128 [.int .u8 c] H H (.int .i64 (kindOf c)) := by
  refine callAt tabOk Spec.no_ok mixed Tryz.func128 rfl rfl Tryz.results128 Tryz.ntmps128 (by simp) [] ?_
  intro hfr t hl ht
  simp only [At, Nat.reduceAdd, List.cons_append, List.nil_append] at ht
  simp (config := {contextual := true, maxSteps := 5000000}) only [go_sem, false_and, Nat.reduceAdd, Nat.reduceLT, Nat.reduceBEq, Nat.reduceSub, Nat.reduceMul, Nat.reduceLeDiff, Int.reduceToNat, Nat.reduceEqDiff, Nat.reduceMod, ht, hl]
  simp +contextual [kindOf]
/-- How many digits stand from a place on. -/
def digsF (s : ByteArray) : Nat → Nat → Nat
  | 0, _ => 0
  | m + 1, p => if p < s.size ∧ isDig (byteAt s p) = true then digsF s m (p + 1) + 1 else 0
def digs (s : ByteArray) (p : Nat) : Nat := digsF s (s.size - p) p
theorem digsF_stop {s : ByteArray} {p : Nat} (h : ¬ (p < s.size ∧ isDig (byteAt s p) = true)) : ∀ m, digsF s m p = 0
  | 0 => rfl
  | m + 1 => by rw [digsF, if_neg h]
theorem digs_step {s : ByteArray} {p : Nat} (h : p < s.size) (hd : isDig (byteAt s p) = true) : digs s p = digs s (p + 1) + 1 := by
  unfold digs
  rw [show s.size - p = (s.size - (p + 1)) + 1 by omega, digsF, if_pos ⟨h, hd⟩]
theorem digs_stop {s : ByteArray} {p : Nat} (h : ¬ (p < s.size ∧ isDig (byteAt s p) = true)) : digs s p = 0 := digsF_stop h _
theorem digsF_le (s : ByteArray) : ∀ m p, digsF s m p ≤ m
  | 0, _ => Nat.le_refl _
  | m + 1, p => by
    unfold digsF
    split
    · have := digsF_le s m (p + 1); omega
    · omega
theorem digs_le (s : ByteArray) (p : Nat) : digs s p ≤ s.size - p := digsF_le s _ _
theorem digsF_all (s : ByteArray) : ∀ m p i, i < digsF s m p → isDig (byteAt s ((p + i : Nat) : Int)) = true
  | 0, _, _, h => by simp [digsF] at h
  | m + 1, p, i, h => by
    unfold digsF at h
    split at h
    · rename_i hh
      cases i with
      | zero => exact hh.2
      | succ i =>
        have := digsF_all s m (p + 1) i (by omega)
        rwa [show p + 1 + i = p + (i + 1) by omega] at this
    · omega
theorem digs_all {s : ByteArray} {p i : Nat} (h : i < digs s p) : isDig (byteAt s ((p + i : Nat) : Int)) = true := digsF_all s _ p i h
def specDg : Spec := Spec.no.add 157 (sp1 dC (fun _ => True) fun c => .bool (isDig c))
theorem specDg_ok : SpecOk Tryz.prog w0 specDg := Spec.no_ok.add (sp1_ok fun c _ k H => isDigit03_call c)
theorem digits_call (s : ByteArray) (p : Nat) (hs : s.size ≤ 140737488355328) (hp : p ≤ s.size) : CallAt Tryz.prog w0 k 126 [.str s, .int .i64 p] H H (.int .i64 (digs s p)) := by
  refine callAt tabOk specDg_ok mixed Tryz.func126 rfl rfl Tryz.results126 Tryz.ntmps126 (by simp) [] ?_
  intro hfr t hl ht
  simp only [At, Nat.reduceAdd, List.cons_append, List.nil_append] at ht
  simp (config := {contextual := true, maxSteps := 5000000}) only [go_sem, false_and, Nat.reduceAdd, Nat.reduceLT, Nat.reduceBEq, Nat.reduceSub, Nat.reduceMul, Nat.reduceLeDiff, Int.reduceToNat, Nat.reduceEqDiff, Nat.reduceMod, ht, hl]
  refine loop_inv tabOk specDg_ok mixed [] (fun j x => ∃ i : Nat, x.tmps.length = 23 ∧ x.tmps.getD 0 AV.undef = .str s ∧ x.tmps.getD 1 AV.undef = .int .i64 p ∧ x.tmps.getD 5 AV.undef = .int .i64 i ∧ x.H = H ∧ i + j = s.size - p ∧ digs s p = i + digs s (p + i)) (s.size - p) ⟨0, ?_⟩ ?_
  · simp (config := {contextual := true, maxSteps := 5000000}) only [go_sem, false_and, Nat.reduceAdd, Nat.reduceLT, Nat.reduceBEq, Nat.reduceSub, Nat.reduceMul, Nat.reduceLeDiff, Int.reduceToNat, Nat.reduceEqDiff, Nat.reduceMod, ht, hl]
    simp
  · rintro j ⟨t, m, H'⟩ ⟨i, hl, h0, h1, h5, rfl, hij, hdg⟩
    simp only at hl h0 h1 h5
    have hw : IntKind.i64.wrap ((p : Int) + (i : Int)) = ((p + i : Nat) : Int) := by rw [wrap_i64] <;> omega
    have hw2 : IntKind.i64.wrap ((i : Int) + 1) = ((i + 1 : Nat) : Int) := by rw [wrap_i64] <;> omega
    simp (config := {contextual := true, maxSteps := 5000000}) only [go_sem, false_and, Nat.reduceAdd, Nat.reduceLT, Nat.reduceBEq, Nat.reduceSub, Nat.reduceMul, Nat.reduceLeDiff, Int.reduceToNat, Nat.reduceEqDiff, Nat.reduceMod, h0, h1, h5, hl, hw, hw2, specDg]
    refine ⟨fun a => ⟨?_, fun b => ?_, fun b => ?_⟩, fun a => ?_⟩ <;> simp only [decide_eq_true_eq, decide_eq_false_iff_not] at a
    · omega
    · have hst := digs_step (s := s) (p := p + i) (by omega) b
      exact ⟨j - 1, by omega, i + 1, rfl, by omega, by rw [hdg, hst, show p + (i + 1) = p + i + 1 by omega]; omega⟩
    · have hst := digs_stop (s := s) (p := p + i) (fun h => by rw [b] at h; exact absurd h.2 (by simp))
      omega
    · have hst := digs_stop (s := s) (p := p + i) (fun h => by omega)
      omega
/-- The value of the first of some digits. -/
def valI (s : ByteArray) (i : Nat) : Int := if i = 0 then 0 else if i = 1 then byteAt s 0 - 48 else 10 * (byteAt s 0 - 48) + (byteAt s 1 - 48)
def num03 (s : ByteArray) (limit : Int) : Int := if s.size = 0 ∨ 2 < s.size ∨ (s.size = 2 ∧ byteAt s 0 = 48) then -1 else if limit < valI s s.size then -1 else valI s s.size
theorem num_u8 {b : Int} (h : 48 ≤ b ∧ b ≤ 57) : IntKind.u8.wrap (b - 48) = b - 48 := by
  have : IntKind.u8.wrap (b - 48) = (b - 48) % 256 := rfl
  rw [this]
  omega
theorem num_step (s : ByteArray) (i : Nat) (hi : i < 2) (h : ∀ j : Nat, j ≤ i → 48 ≤ byteAt s j ∧ byteAt s j ≤ 57) : IntKind.i64.wrap (IntKind.i64.wrap (valI s i * 10) + IntKind.i64.wrap (byteAt s i - 48)) = valI s (i + 1) := by
  have h0 : 48 ≤ byteAt s 0 ∧ byteAt s 0 ≤ 57 := h 0 (by omega)
  have hi2 : i = 0 ∨ i = 1 := by omega
  rcases hi2 with rfl | rfl
  · have e : byteAt s ((0 : Nat) : Int) = byteAt s 0 := rfl
    rw [e]
    simp only [valI, if_true, Nat.zero_add, Nat.one_ne_zero, if_false, Int.zero_mul]
    rw [wrap_i64 (n := 0) (by omega) (by omega), wrap_i64 (n := byteAt s 0 - 48) (by omega) (by omega), wrap_i64 (by omega) (by omega)]
    omega
  · have h1 : 48 ≤ byteAt s 1 ∧ byteAt s 1 ≤ 57 := h 1 (by omega)
    have e : byteAt s ((1 : Nat) : Int) = byteAt s 1 := rfl
    rw [e]
    have v1 : valI s 1 = byteAt s 0 - 48 := rfl
    have v2 : valI s (1 + 1) = 10 * (byteAt s 0 - 48) + (byteAt s 1 - 48) := rfl
    rw [v1, v2, wrap_i64 (n := (byteAt s 0 - 48) * 10) (by omega) (by omega), wrap_i64 (n := byteAt s 1 - 48) (by omega) (by omega), wrap_i64 (by omega) (by omega)]
    omega
theorem number03_call (s : ByteArray) (limit : Int) (hd : ∀ i : Nat, i < s.size → isDig (byteAt s i) = true) (hs : s.size ≤ 140737488355328) : CallAt Tryz.prog w0 k 127 [.str s, .int .i64 limit] H H (.int .i64 (num03 s limit)) := by
  refine callAt tabOk Spec.no_ok mixed Tryz.func127 rfl rfl Tryz.results127 Tryz.ntmps127 (by simp) [] ?_
  intro hfr t hl ht
  simp only [At, Nat.reduceAdd, List.cons_append, List.nil_append] at ht
  have hdd : ∀ i : Nat, i < s.size → 48 ≤ byteAt s i ∧ byteAt s i ≤ 57 := fun i hi => by
    have := hd i hi
    simpa [isDig] using this
  by_cases hbad : s.size = 0 ∨ 2 < s.size ∨ (s.size = 2 ∧ byteAt s 0 = 48)
  · have hv : num03 s limit = -1 := by rw [num03, if_pos hbad]
    rw [hv]
    rcases hbad with h | h | ⟨h, hb⟩
    · have hz : (s.size : Int) = 0 := by omega
      simp (config := {contextual := true, maxSteps := 5000000}) only [go_sem, false_and, Nat.reduceAdd, Nat.reduceLT, Nat.reduceBEq, Nat.reduceSub, Nat.reduceMul, Nat.reduceLeDiff, Int.reduceToNat, Nat.reduceEqDiff, Nat.reduceMod, ht, hl, hz, Int.reduceBEq]
    · have hz : ((s.size : Int) == 0) = false := beq_eq_false_iff_ne.2 (by omega)
      have hz2 : decide ((2 : Int) < (s.size : Int)) = true := by simp; omega
      simp (config := {contextual := true, maxSteps := 5000000}) only [go_sem, false_and, Nat.reduceAdd, Nat.reduceLT, Nat.reduceBEq, Nat.reduceSub, Nat.reduceMul, Nat.reduceLeDiff, Int.reduceToNat, Nat.reduceEqDiff, Nat.reduceMod, ht, hl, hz, hz2, Int.reduceBEq]
    · have hz : (s.size : Int) = 2 := by omega
      simp (config := {contextual := true, maxSteps := 5000000}) only [go_sem, false_and, Nat.reduceAdd, Nat.reduceLT, Nat.reduceBEq, Nat.reduceSub, Nat.reduceMul, Nat.reduceLeDiff, Int.reduceToNat, Nat.reduceEqDiff, Nat.reduceMod, ht, hl, hz, hb, Int.reduceBEq, Int.reduceLT, decide_false]
      simp
  · have h12 : s.size = 1 ∨ s.size = 2 ∧ byteAt s 0 ≠ 48 := by omega
    have hv : num03 s limit = if limit < valI s s.size then -1 else valI s s.size := by rw [num03, if_neg hbad]
    rw [hv]
    rcases h12 with h | ⟨h, hb⟩
    have hz : (s.size : Int) = 1 := by omega
    simp (config := {contextual := true, maxSteps := 5000000}) only [go_sem, false_and, Nat.reduceAdd, Nat.reduceLT, Nat.reduceBEq, Nat.reduceSub, Nat.reduceMul, Nat.reduceLeDiff, Int.reduceToNat, Nat.reduceEqDiff, Nat.reduceMod, ht, hl, hz, Int.reduceBEq, Int.reduceLT, decide_false]
    rotate_left
    have hz : (s.size : Int) = 2 := by omega
    have hb' : (byteAt s 0 == 48) = false := by simpa using hb
    simp (config := {contextual := true, maxSteps := 5000000}) only [go_sem, false_and, Nat.reduceAdd, Nat.reduceLT, Nat.reduceBEq, Nat.reduceSub, Nat.reduceMul, Nat.reduceLeDiff, Int.reduceToNat, Nat.reduceEqDiff, Nat.reduceMod, ht, hl, hz, hb', Int.reduceBEq, Int.reduceLT, decide_false]
    refine ⟨by omega, ?_⟩
    all_goals
      refine loop_inv tabOk Spec.no_ok mixed [] (fun j x => ∃ i : Nat, x.tmps.length = 43 ∧ x.tmps.getD 0 AV.undef = .str s ∧ x.tmps.getD 1 AV.undef = .int .i64 limit ∧ x.tmps.getD 5 AV.undef = .int .i64 (valI s i) ∧ x.tmps.getD 6 AV.undef = .int .i64 i ∧ x.H = H ∧ i + j = s.size) s.size ⟨0, ?_⟩ ?_
      · simp (config := {contextual := true, maxSteps := 5000000}) only [go_sem, false_and, Nat.reduceAdd, Nat.reduceLT, Nat.reduceBEq, Nat.reduceSub, Nat.reduceMul, Nat.reduceLeDiff, Int.reduceToNat, Nat.reduceEqDiff, Nat.reduceMod, ht, hl]
        simp [valI]
      · rintro j ⟨t, n, H'⟩ ⟨i, hl, h0, h1, h5, h6, rfl, hij⟩
        simp only at hl h0 h1 h5 h6
        by_cases hi : i < s.size
        · have hdi : decide ((i : Int) < (s.size : Int)) = true := by simp [hi]
          have hw2 : IntKind.i64.wrap ((i : Int) + 1) = ((i + 1 : Nat) : Int) := by rw [wrap_i64] <;> omega
          have hbi := hdd i hi
          have hwu := num_u8 hbi
          have hwv := num_step s i (by omega) (fun j hj => hdd j (by omega))
          simp (config := {contextual := true, maxSteps := 5000000}) only [go_sem, false_and, Nat.reduceAdd, Nat.reduceLT, Nat.reduceBEq, Nat.reduceSub, Nat.reduceMul, Nat.reduceLeDiff, Int.reduceToNat, Nat.reduceEqDiff, Nat.reduceMod, h0, h1, h5, h6, hl, hdi, hw2, hwu, hwv]
          exact ⟨⟨by omega, by omega⟩, j - 1, by omega, i + 1, rfl, rfl, by omega⟩
        · have hdi : decide ((i : Int) < (s.size : Int)) = false := by simp; omega
          obtain rfl : i = s.size := by omega
          simp (config := {contextual := true, maxSteps := 5000000}) only [go_sem, false_and, Nat.reduceAdd, Nat.reduceLT, Nat.reduceBEq, Nat.reduceSub, Nat.reduceMul, Nat.reduceLeDiff, Int.reduceToNat, Nat.reduceEqDiff, Nat.reduceMod, h0, h1, h5, h6, hl, hdi]
          refine ⟨fun a => ?_, fun a => ?_⟩ <;> simp only [decide_eq_true_eq, decide_eq_false_iff_not] at a
          · rw [if_pos a]
          · rw [if_neg a]
end Go.Proofs.YtkdendaohlnlcaaGreatDoor.Av

/- The program's numbers and symbols in texts of formulas. No condition. -/
namespace Go.Proofs.YtkdendaohlnlcaaGreatDoor.Av
set_option linter.unusedVariables false
set_option linter.unusedSimpArgs false
set_option maxRecDepth 4000
set_option maxHeartbeats 1000000
variable {w0 : Base} {k : List Nat} {H : Hp}
theorem byteAt_get (s : ByteArray) (i : Nat) (h : i < s.size) : byteAt s i = ((s.get! i).toNat : Int) := by
  have e : s.get! i = s[i]'h := by
    cases s with
    | mk a =>
      show a[i]! = a[i]
      rw [getElem!_pos a i h]
  rw [e]
  unfold byteAt
  have hn : (i : Int).toNat = i := Int.toNat_natCast i
  split
  · congr
  · rename_i hh
    rw [hn] at hh
    exact absurd h hh
theorem byteAt_lt (s : ByteArray) (i : Int) : 0 ≤ byteAt s i ∧ byteAt s i < 256 := by
  unfold byteAt
  split
  · have := UInt8.toNat_lt (s[i.toNat])
    omega
  · omega
theorem decode_small {s : ByteArray} {i : Nat} (h : i < s.size) (hb : byteAt s i < 128) : (((Utf8.decode s i).1 : Nat) : Int) = byteAt s i ∧ (Utf8.decode s i).2 = 1 := by
  have e := byteAt_get s i h
  unfold Utf8.decode
  simp only [Nat.add_zero]
  rw [if_pos (by omega)]
  exact ⟨e.symm, rfl⟩
theorem decode_big {s : ByteArray} {i : Nat} (h : i < s.size) (hb : 128 ≤ byteAt s i) : 128 ≤ (((Utf8.decode s i).1 : Nat) : Int) := by
  have e := byteAt_get s i h
  have hl := (byteAt_lt s i).2
  unfold Utf8.decode
  simp only [Nat.add_zero]
  rw [if_neg (by omega)]
  (repeat' split) <;> (try (rename_i hh; simp only [Bool.and_eq_true, decide_eq_true_eq, ge_iff_le] at hh)) <;> simp only [Utf8.runeError] <;> omega
def symK (c : Int) : Int := if c = 120 then 1 else if c = 102 then 2 else if c = 80 then 3 else 0
def symM (c : Int) : Int := if c = 120 then 63 else if c = 102 ∨ c = 80 then 99 else 0
theorem symbol_call (c : Int) : CallAt Tryz.prog w0 k 150 [.int .i32 c] H H (.tup [.int .i64 (symK c), .int .i64 (symM c)]) := by
  refine callAt tabOk Spec.no_ok mixed Tryz.func150 rfl rfl Tryz.results150 Tryz.ntmps150 (by simp) [] ?_
  intro hfr t hl ht
  simp only [At, Nat.reduceAdd, List.cons_append, List.nil_append] at ht
  by_cases h1 : c = 120
  · simp (config := {contextual := true, maxSteps := 5000000}) only [go_sem, false_and, Nat.reduceAdd, Nat.reduceLT, Nat.reduceBEq, Nat.reduceSub, Nat.reduceMul, Nat.reduceLeDiff, Int.reduceToNat, Nat.reduceEqDiff, Nat.reduceMod, ht, hl, h1, Int.reduceBEq]
    exact Weak.refl _
  · by_cases h2 : c = 102
    · simp (config := {contextual := true, maxSteps := 5000000}) only [go_sem, false_and, Nat.reduceAdd, Nat.reduceLT, Nat.reduceBEq, Nat.reduceSub, Nat.reduceMul, Nat.reduceLeDiff, Int.reduceToNat, Nat.reduceEqDiff, Nat.reduceMod, ht, hl, h2, Int.reduceBEq]
      exact Weak.refl _
    · by_cases h3 : c = 80
      · simp (config := {contextual := true, maxSteps := 5000000}) only [go_sem, false_and, Nat.reduceAdd, Nat.reduceLT, Nat.reduceBEq, Nat.reduceSub, Nat.reduceMul, Nat.reduceLeDiff, Int.reduceToNat, Nat.reduceEqDiff, Nat.reduceMod, ht, hl, h3, Int.reduceBEq]
        exact Weak.refl _
      · have e1 : (c == 120) = false := by simp [h1]
        have e2 : (c == 102) = false := by simp [h2]
        have e3 : (c == 80) = false := by simp [h3]
        simp (config := {contextual := true, maxSteps := 5000000}) only [go_sem, false_and, Nat.reduceAdd, Nat.reduceLT, Nat.reduceBEq, Nat.reduceSub, Nat.reduceMul, Nat.reduceLeDiff, Int.reduceToNat, Nat.reduceEqDiff, Nat.reduceMod, ht, hl, e1, e2, e3, Int.reduceBEq]
        simp only [symK, symM, h1, h2, h3, if_false, or_self]
        exact Weak.refl _
/-- A number at a text's beginning, and how many digits it has; noughts: none that may be. -/
def numR (s : ByteArray) (mst : Int) : Int × Nat :=
  if digs s 0 = 1 then (byteAt s 0 - 48, 1) else if digs s 0 = 2 ∧ byteAt s 0 ≠ 48 ∧ 10 * (byteAt s 0 - 48) + (byteAt s 1 - 48) ≤ mst then (10 * (byteAt s 0 - 48) + (byteAt s 1 - 48), 2) else (0, 0)
def numI (s : ByteArray) (mst : Int) (p : Nat) (n : Int) : Prop := 0 ≤ n ∧ n ≤ mst + 1 ∧ (p = 0 → n = 0) ∧ (p = 1 → n = byteAt s 0 - 48) ∧ (p = 2 → n = min (10 * (byteAt s 0 - 48) + (byteAt s 1 - 48)) (mst + 1)) ∧ (3 ≤ p → byteAt s 0 ≠ 48 → n = mst + 1)
theorem numI_step {s : ByteArray} {mst : Int} {p : Nat} {n d : Int} (hm : mst = 63 ∨ mst = 99) (h : numI s mst p n) (hd : isDig (byteAt s p) = true) (h0 : 1 ≤ p → isDig (byteAt s 0) = true) (h1 : 2 ≤ p → isDig (byteAt s 1) = true) (e : d = byteAt s p - 48) :
    numI s mst (p + 1) (min (10 * n + d) (mst + 1)) := by
  obtain ⟨a1, a2, a3, a4, a5, a6⟩ := h
  simp only [isDig, Bool.and_eq_true, decide_eq_true_eq] at hd h0 h1
  refine ⟨by omega, by omega, by omega, fun h => ?_, fun h => ?_, fun h hb => ?_⟩
  · obtain rfl : p = 0 := by omega
    have e2 : byteAt s ((0 : Nat) : Int) = byteAt s 0 := rfl
    rw [e2] at e hd
    have := a3 rfl
    omega
  · obtain rfl : p = 1 := by omega
    have e2 : byteAt s ((1 : Nat) : Int) = byteAt s 1 := rfl
    rw [e2] at e hd
    have := a4 rfl
    omega
  · have hb0 := h0 (by omega)
    have hb1 := h1 (by omega)
    by_cases hp : p = 2
    · have := a5 hp
      omega
    · have := a6 (by omega) hb
      omega
theorem numR_end {s : ByteArray} {mst v : Int} {p : Nat} (hm : mst = 63 ∨ mst = 99) (h : numI s mst p v) (hd : digs s 0 = p) :
    (mst < v → numR s mst = (0, 0)) ∧ (v ≤ mst → 1 < p → byteAt s 0 = 48 → numR s mst = (0, 0)) ∧ (v ≤ mst → (1 < p → byteAt s 0 ≠ 48) → numR s mst = (v, p)) := by
  obtain ⟨a1, a2, a3, a4, a5, a6⟩ := h
  have hdig : ∀ i : Nat, i < p → 48 ≤ byteAt s i ∧ byteAt s i ≤ 57 := fun i hi => by
    have := digs_all (s := s) (p := 0) (i := i) (by omega)
    rw [Nat.zero_add] at this
    simpa [isDig] using this
  unfold numR
  rw [hd]
  by_cases h1 : p = 1
  · have := a4 h1
    have hb : 48 ≤ byteAt s 0 ∧ byteAt s 0 ≤ 57 := hdig 0 (by omega)
    rw [if_pos h1]
    exact ⟨fun h => by omega, fun _ h => by omega, fun _ _ => by rw [this, h1]⟩
  · rw [if_neg h1]
    by_cases h2 : p = 2
    · have := a5 h2
      refine ⟨fun h => if_neg (by omega), fun _ _ h => if_neg (by omega), fun h hb => ?_⟩
      rw [if_pos (by have := hb (by omega); omega), h2]
      congr 1
      omega
    · rw [if_neg (by omega)]
      refine ⟨fun _ => rfl, fun _ _ _ => rfl, fun h hb => ?_⟩
      by_cases h0 : p = 0
      · rw [a3 h0, h0]
      · have := a6 (by omega) (hb (by omega))
        omega
theorem numR_fin {s : ByteArray} {mst v : Int} {p : Nat} (hm : mst = 63 ∨ mst = 99) (hv : numI s mst p v) (hps : p ≤ s.size) (hd : digs s 0 = p) : (decide (mst < v) = false → (decide (1 < (p : Int)) = true → (0 ≤ (0 : Int) ∧ 0 < (s.size : Int)) ∧ ((byteAt s 0 == 48) = true → Weak (.tup [.int .i64 0, .int .i64 0]) (.tup [.int .i64 (numR s mst).1, .int .i64 ((numR s mst).2 : Nat)])) ∧ ((byteAt s 0 == 48) = false → Weak (.tup [.int .i64 v, .int .i64 p]) (.tup [.int .i64 (numR s mst).1, .int .i64 ((numR s mst).2 : Nat)]))) ∧ (decide (1 < (p : Int)) = false → Weak (.tup [.int .i64 v, .int .i64 p]) (.tup [.int .i64 (numR s mst).1, .int .i64 ((numR s mst).2 : Nat)]))) ∧
        (decide (mst < v) = true → Weak (.tup [.int .i64 0, .int .i64 0]) (.tup [.int .i64 (numR s mst).1, .int .i64 ((numR s mst).2 : Nat)])) := by
  obtain ⟨e1, e2, e3⟩ := numR_end hm hv hd
  refine ⟨fun a => ⟨fun b => ⟨⟨by omega, by simp only [decide_eq_true_eq] at b; omega⟩, fun c => ?_, fun c => ?_⟩, fun b => ?_⟩, fun a => ?_⟩ <;> simp only [decide_eq_true_eq, decide_eq_false_iff_not] at a <;> (try simp only [decide_eq_true_eq, decide_eq_false_iff_not] at b) <;> (try simp only [beq_iff_eq, beq_eq_false_iff_ne, ne_eq] at c)
  · rw [e2 (by omega) (by omega) c]; exact Weak.refl _
  · rw [e3 (by omega) (fun _ => c)]; exact Weak.refl _
  · rw [e3 (by omega) (fun h => absurd h (by omega))]; exact Weak.refl _
  · rw [e1 a]; exact Weak.refl _
theorem wrap_i32 {n : Int} (h : -2147483648 ≤ n) (h2 : n < 2147483648) : IntKind.i32.wrap n = n := by
  rw [IntKind.wrap_i32]
  omega
theorem numberP_call (s : ByteArray) (mst : Int) (hm : mst = 63 ∨ mst = 99) (hs : s.size ≤ 140737488355328) : CallAt Tryz.prog w0 k 152 [.str s, .int .i64 mst] H H (.tup [.int .i64 (numR s mst).1, .int .i64 ((numR s mst).2 : Nat)]) := by
  refine callAt tabOk Spec.no_ok mixed Tryz.func152 rfl rfl Tryz.results152 Tryz.ntmps152 (by simp) [] ?_
  intro hfr t hl ht
  simp only [At, Nat.reduceAdd, List.cons_append, List.nil_append] at ht
  simp (config := {contextual := true, maxSteps := 5000000}) only [go_sem, false_and, Nat.reduceAdd, Nat.reduceLT, Nat.reduceBEq, Nat.reduceSub, Nat.reduceMul, Nat.reduceLeDiff, Int.reduceToNat, Nat.reduceEqDiff, Nat.reduceMod, ht, hl]
  refine strRange (s := s) (mb := []) tabOk Spec.no_ok mixed rfl rfl rfl rfl rfl rfl tab_9 rfl rfl rfl rfl rfl rfl (by simp (config := {contextual := true, maxSteps := 5000000}) only [go_sem, false_and, Nat.reduceAdd, Nat.reduceLT, Nat.reduceBEq, Nat.reduceSub, Nat.reduceMul, Nat.reduceLeDiff, Int.reduceToNat, Nat.reduceEqDiff, Nat.reduceMod, ht, hl]) (by simp [hl])
    (fun pos x => x.tmps.length = 47 ∧ x.tmps.getD 0 AV.undef = .str s ∧ x.tmps.getD 1 AV.undef = .int .i64 mst ∧ (∃ n, x.tmps.getD 6 AV.undef = .int .i64 n ∧ numI s mst pos n) ∧ x.tmps.getD 7 AV.undef = .int .i64 pos ∧ x.tmps.getD 11 AV.undef = .iter ⟨0, 0 :: 2 :: k, 0⟩ ∧ x.H = H ∧ pos ≤ s.size ∧ digs s 0 = pos + digs s pos) ?_ ?_ ?_ ?_
  · simp (config := {contextual := true, maxSteps := 5000000}) only [go_sem, false_and, Nat.reduceAdd, Nat.reduceLT, Nat.reduceBEq, Nat.reduceSub, Nat.reduceMul, Nat.reduceLeDiff, Int.reduceToNat, Nat.reduceEqDiff, Nat.reduceMod, ht, hl]
    exact ⟨⟨0, rfl, by unfold numI; omega⟩, by simp, by simp⟩
  · rintro pos ⟨t, n, H'⟩ ⟨hl, h0, h1, h6, h7, h11, rfl, hp, hdg⟩
    simp only at hl h0 h1 h6 h7 h11
    exact ⟨h11, by simp [hl], by simp [hl]⟩
  · rintro pos ⟨t, n, H'⟩ hpos ⟨hl, h0, h1, ⟨v, h6, hv⟩, h7, h11, rfl, hp, hdg⟩
    simp only at hl h0 h1 h6 h7 h11
    have hb := byteAt_lt s pos
    have hfin := numR_fin (s := s) (p := pos) hm hv (by omega)
    have hc : (byteAt s pos < 128 ∧ (((Utf8.decode s pos).1 : Nat) : Int) = byteAt s pos ∧ (Utf8.decode s pos).2 = 1) ∨ 128 ≤ (((Utf8.decode s pos).1 : Nat) : Int) ∧ 128 ≤ byteAt s pos := by
      rcases Int.lt_or_le (byteAt s pos) 128 with h | h
      · exact .inl ⟨h, decode_small hpos h⟩
      · exact .inr ⟨decode_big hpos h, h⟩
    have hst : ¬ (48 ≤ (((Utf8.decode s pos).1 : Nat) : Int) ∧ (((Utf8.decode s pos).1 : Nat) : Int) ≤ 57) → digs s 0 = pos := fun h => by
      have := digs_stop (s := s) (p := pos) (fun hh => by
        have := hh.2
        simp only [isDig, Bool.and_eq_true, decide_eq_true_eq] at this
        omega)
      omega
    generalize (((Utf8.decode s pos).1 : Nat) : Int) = c at hc hst ⊢
    generalize (Utf8.decode s pos).2 = wd at hc ⊢
    have hvb := hv.1
    have hvb2 := hv.2.1
    have hw1 : IntKind.i64.wrap (mst + 1) = mst + 1 := wrap_i64 (by omega) (by omega)
    have hw2 : IntKind.i64.wrap (10 * v) = 10 * v := wrap_i64 (by omega) (by omega)
    have hw3 : IntKind.i64.wrap ((pos : Int) + 1) = ((pos + 1 : Nat) : Int) := by rw [wrap_i64] <;> omega
    simp (config := {contextual := true, maxSteps := 5000000}) only [go_sem, false_and, Nat.reduceAdd, Nat.reduceLT, Nat.reduceBEq, Nat.reduceSub, Nat.reduceMul, Nat.reduceLeDiff, Int.reduceToNat, Nat.reduceEqDiff, Nat.reduceMod, h0, h1, h6, h7, h11, hl, hw1, hw2, hw3]
    refine ⟨fun a => ⟨fun b => ?_, fun b => ?_⟩, fun a => ?_⟩ <;> simp only [decide_eq_true_eq, decide_eq_false_iff_not] at a <;> (try simp only [decide_eq_true_eq, decide_eq_false_iff_not] at b)
    · exact hfin (hst (by omega))
    · obtain ⟨h1, h2, h3⟩ | h1 := hc
      · have hwc : IntKind.i32.wrap (c - 48) = c - 48 := wrap_i32 (by omega) (by omega)
        have hwc2 : IntKind.i64.wrap (c - 48) = c - 48 := wrap_i64 (by omega) (by omega)
        have hwc3 : IntKind.i64.wrap (10 * v + (c - 48)) = 10 * v + (c - 48) := wrap_i64 (by omega) (by omega)
        have hdig : isDig (byteAt s pos) = true := by simp only [isDig, Bool.and_eq_true, decide_eq_true_eq]; omega
        have hstep := digs_step hpos hdig
        have hbef : ∀ i : Nat, i < digs s 0 → isDig (byteAt s i) = true := fun i hi => by
          have := digs_all (s := s) (p := 0) (i := i) hi
          rwa [Nat.zero_add] at this
        rw [hwc, hwc2, hwc3, h3]
        refine ⟨⟨_, rfl, ?_⟩, rfl, by omega, by omega⟩
        have := numI_step (d := c - 48) hm hv hdig (fun h => hbef 0 (by omega)) (fun h => hbef 1 (by omega)) (by omega)
        have e : (if mst + 1 < 10 * v + (c - 48) then mst + 1 else 10 * v + (c - 48)) = min (10 * v + (c - 48)) (mst + 1) := by
          rw [Int.min_def]
          split <;> split <;> omega
        rwa [e]
      · omega
    · exact hfin (hst (by omega))
  · rintro pos ⟨t, n, H'⟩ hpos ⟨hl, h0, h1, ⟨v, h6, hv⟩, h7, h11, rfl, hp, hdg⟩
    simp only at hl h0 h1 h6 h7 h11
    simp (config := {contextual := true, maxSteps := 5000000}) only [go_sem, false_and, Nat.reduceAdd, Nat.reduceLT, Nat.reduceBEq, Nat.reduceSub, Nat.reduceMul, Nat.reduceLeDiff, Int.reduceToNat, Nat.reduceEqDiff, Nat.reduceMod, h0, h1, h6, h7, h11, hl]
    refine numR_fin hm hv (by omega) ?_
    have := digs_stop (s := s) (p := pos) (fun h => by omega)
    omega
end Go.Proofs.YtkdendaohlnlcaaGreatDoor.Av

/- Contracts of the library's functions, as the kit's shelf lays them at this program. No condition. -/
namespace Go.Proofs
open Go.Shelf
def Tryz.lays156_ren : Go.Shelf.Ren := ⟨fun | 156 => 40 | 165 => 69 | 166 => 39 | 169 => 44 | 240 => 68 | 241 => 103 | 276 => 102 | 277 => 143 | n => n, fun | 31 => 22 | 9 => 9 | 3 => 3 | 4 => 4 | 0 => 0 | 20 => 20 | 72 => 63 | 76 => 66 | 70 => 60 | 37 => 61 | 75 => 65 | 127 => 91 | 164 => 122 | 5 => 5 | 80 => 71 | n => n, fun | n => n⟩
theorem Tryz.lays156 : Go.Proofs.Lays.n156 Tryz.prog Tryz.lays156_ren := {
  mixed := by kernel_rfl
  f156 := Tryz.func40.trans (congrArg some (by kernel_rfl))
  f165 := Tryz.func69.trans (congrArg some (by kernel_rfl))
  f166 := Tryz.func39.trans (congrArg some (by kernel_rfl))
  f169 := Tryz.func44.trans (congrArg some (by kernel_rfl))
  f240 := Tryz.func68.trans (congrArg some (by kernel_rfl))
  f241 := Tryz.func103.trans (congrArg some (by kernel_rfl))
  f276 := Tryz.func102.trans (congrArg some (by kernel_rfl))
  f277 := Tryz.func143.trans (congrArg some (by kernel_rfl))
  t0 := Tryz.underlying0
  a0 := Tryz.isAgg0
  z0 := Tryz.sizeOf0
  v0 := Tryz.zeroValue0
  t3 := Tryz.underlying3
  a3 := Tryz.isAgg3
  z3 := Tryz.sizeOf3
  v3 := Tryz.zeroValue3
  t4 := Tryz.underlying4
  a4 := Tryz.isAgg4
  z4 := Tryz.sizeOf4
  v4 := Tryz.zeroValue4
  t9 := Tryz.underlying9
  a9 := Tryz.isAgg9
  z9 := Tryz.sizeOf9
  v9 := Tryz.zeroValue9
  t20 := Tryz.underlying20
  a20 := Tryz.isAgg20
  z20 := Tryz.sizeOf20
  v20 := Tryz.zeroValue20
  t31 := Tryz.underlying22
  a31 := Tryz.isAgg22
  z31 := Tryz.sizeOf22
  v31 := Tryz.zeroValue22
  t37 := Tryz.underlying61
  a37 := Tryz.isAgg61
  z37 := Tryz.sizeOf61
  v37 := Tryz.zeroValue61
  t70 := Tryz.underlying60
  a70 := Tryz.isAgg60
  z70 := Tryz.sizeOf60
  v70 := Tryz.zeroValue60
  t72 := Tryz.underlying63
  a72 := Tryz.isAgg63
  z72 := Tryz.sizeOf63
  v72 := Tryz.zeroValue63
  t75 := Tryz.underlying65
  a75 := Tryz.isAgg65
  z75 := Tryz.sizeOf65
  v75 := Tryz.zeroValue65
  t76 := Tryz.underlying66
  a76 := Tryz.isAgg66
  z76 := Tryz.sizeOf66
  v76 := Tryz.zeroValue66
  t127 := Tryz.underlying91
  a127 := Tryz.isAgg91
  z127 := Tryz.sizeOf91
  v127 := Tryz.zeroValue91
  t164 := Tryz.underlying122
  a164 := Tryz.isAgg122
  z164 := Tryz.sizeOf122
  v164 := Tryz.zeroValue122 }
theorem Tryz.Builder_Extra_156 : Builder.Extra Tryz.prog Tryz.lays156_ren := {
  sizeBuilder := by kernel_rfl
  liesBuilder := by kernel_rfl
  t5 := Tryz.underlying5
  a5 := Tryz.isAgg5
  z5 := Tryz.sizeOf5
  v5 := Tryz.zeroValue5
  infoByte := by kernel_rfl
  cellsByte := by kernel_rfl
  sizeByte := by kernel_rfl
  neB5 := by decide }
open Go.RowKit in
/-- No element: the empty string; the world is as it was. (Whatever the slice's address and capacity: a nil slice too.) (LAID: no walk: one application.) -/
theorem Tryz.strings_Join_none (a : Option Addr) (c : Nat) (sep : ByteArray) (w : World) :
    Calls Tryz.prog 40 #[.slice a 0 c, .string sep] w fun e w' => e = .returned (.string ⟨#[]⟩) ∧ w' = w := Any.strings_Join_none Tryz.lays156 Tryz.Builder_Extra_156 a c sep w
open Go.RowKit in
/-- strings.Join: "Join concatenates the elements of its first argument to create a single string. The separator string sep is placed between elements in the resulting string.": HOWEVER MANY ELEMENTS. Below the heap's end the world is as it was. (LAID: no walk: one application.) -/
theorem Tryz.strings_Join (bk o c : Nat) (xs : List ByteArray) (sep : ByteArray) (w : World) (hcells : ∀ (j : Nat) x, xs[j]? = some x → w.cell? ⟨bk, o + j, none⟩ = some (.string x)) (hbk : bk < w.heap.size) (hN : xs.length ≤ 140737488355328) (hcap : xs.length ≤ c) (hlen : (Lib.join (xs.map (·.data.toList)) sep.data.toList).length ≤ 140737488355328) :
    Calls Tryz.prog 40 #[.slice (some ⟨bk, o, none⟩) xs.length c, .string sep] w fun e w' => e = .returned (.string ⟨(Lib.join (xs.map (·.data.toList)) sep.data.toList).toArray⟩) ∧ Below w.heap.size w w' := Any.strings_Join Tryz.lays156 Tryz.Builder_Extra_156 bk o c xs sep w hcells hbk hN hcap hlen
def Tryz.lays119_ren : Go.Shelf.Ren := ⟨fun | 119 => 173 | n => n, fun | 21 => 21 | 4 => 4 | n => n, fun | n => n⟩
theorem Tryz.lays119 : Go.Proofs.Lays.n119 Tryz.prog Tryz.lays119_ren := {
  mixed := by kernel_rfl
  f119 := Tryz.func173.trans (congrArg some (by kernel_rfl))
  t4 := Tryz.underlying4
  a4 := Tryz.isAgg4
  z4 := Tryz.sizeOf4
  v4 := Tryz.zeroValue4
  t21 := Tryz.underlying21
  a21 := Tryz.isAgg21
  z21 := Tryz.sizeOf21
  v21 := Tryz.zeroValue21 }
/-- utf8.ValidRune: "ValidRune reports whether r can be legally encoded as UTF-8. Code points that are out of range or a surrogate half are illegal.": IT RETURNS 'Lib.validRune r'; the world is as it was. (LAID: no walk: one application.) -/
theorem Tryz.utf8_ValidRune (r : Int) (w : World) :
    Calls Tryz.prog 173 #[.int .i32 r] w fun e w' => e = .returned (.bool (Lib.validRune r)) ∧ w' = w := Any.utf8_ValidRune Tryz.lays119 r w
def Tryz.lays137_ren : Go.Shelf.Ren := ⟨fun | 137 => 172 | 217 => 153 | 266 => 168 | n => n, fun | 9 => 9 | 5 => 5 | 3 => 3 | n => n, fun | n => n⟩
theorem Tryz.lays137 : Go.Proofs.Lays.n137 Tryz.prog Tryz.lays137_ren := {
  mixed := by kernel_rfl
  f137 := Tryz.func172.trans (congrArg some (by kernel_rfl))
  f217 := Tryz.func153.trans (congrArg some (by kernel_rfl))
  f266 := Tryz.func168.trans (congrArg some (by kernel_rfl))
  t3 := Tryz.underlying3
  a3 := Tryz.isAgg3
  z3 := Tryz.sizeOf3
  v3 := Tryz.zeroValue3
  t5 := Tryz.underlying5
  a5 := Tryz.isAgg5
  z5 := Tryz.sizeOf5
  v5 := Tryz.zeroValue5
  t9 := Tryz.underlying9
  a9 := Tryz.isAgg9
  z9 := Tryz.sizeOf9
  v9 := Tryz.zeroValue9 }
open Go.RowKit in
/-- strings.IndexByte: "IndexByte returns the index of the first instance of c in s, or -1 if c is not present in s.": IT RETURNS 'Lib.indexByte s c'; the world is as it was. (LAID: no walk: one application.) -/
theorem Tryz.strings_IndexByte (s : ByteArray) (c : Int) (w : World) :
    Calls Tryz.prog 172 #[.string s, .int .u8 c] w fun e w' => e = .returned (.int .i64 (Lib.indexByte s.data.toList c.toNat.toUInt8)) ∧ w' = w := Any.strings_IndexByte Tryz.lays137 s c w
def Tryz.lays103_ren : Go.Shelf.Ren := ⟨fun | 103 => 23 | 210 => 50 | 206 => 79 | n => n, fun | 9 => 9 | 4 => 4 | 24 => 45 | 3 => 3 | n => n, fun | n => n⟩
theorem Tryz.lays103 : Go.Proofs.Lays.n103 Tryz.prog Tryz.lays103_ren := {
  mixed := by kernel_rfl
  f103 := Tryz.func23.trans (congrArg some (by kernel_rfl))
  f206 := Tryz.func79.trans (congrArg some (by kernel_rfl))
  f210 := Tryz.func50.trans (congrArg some (by kernel_rfl))
  t3 := Tryz.underlying3
  a3 := Tryz.isAgg3
  z3 := Tryz.sizeOf3
  v3 := Tryz.zeroValue3
  t4 := Tryz.underlying4
  a4 := Tryz.isAgg4
  z4 := Tryz.sizeOf4
  v4 := Tryz.zeroValue4
  t9 := Tryz.underlying9
  a9 := Tryz.isAgg9
  z9 := Tryz.sizeOf9
  v9 := Tryz.zeroValue9
  t24 := Tryz.underlying45
  a24 := Tryz.isAgg45
  z24 := Tryz.sizeOf45
  v24 := Tryz.zeroValue45 }
open Go.RowKit in
/-- strings.CutPrefix: "CutPrefix returns s without the provided leading prefix string and reports whether it found the prefix. If s doesn't start with prefix, CutPrefix returns s, false. If prefix is the empty string, CutPrefix returns s, true.": IT RETURNS '(Lib.trimPrefix s p, Lib.hasPrefix s p)'; the world is as it was. (LAID: no walk: one application.) -/
theorem Tryz.strings_CutPrefix (s p : ByteArray) (w : World) :
    Calls Tryz.prog 23 #[.string s, .string p] w fun e w' => e = .returned (.tuple #[.string ⟨(Lib.trimPrefix s.data.toList p.data.toList).toArray⟩, .bool (Lib.hasPrefix s.data.toList p.data.toList)]) ∧ w' = w := Any.strings_CutPrefix Tryz.lays103 s p w
def Tryz.laysM171_ren : Go.Shelf.Ren := ⟨fun | 171 => 37 | 243 => 67 | 246 => 101 | 283 => 139 | 284 => 140 | 285 => 141 | 286 => 142 | 129 => 162 | 317 => 161 | 318 => 163 | 319 => 164 | 320 => 165 | 337 => 170 | 338 => 171 | n => n, fun | 3 => 3 | 9 => 9 | 2 => 2 | 4 => 4 | 171 => 150 | 0 => 0 | 53 => 151 | 37 => 61 | 5 => 5 | 173 => 154 | 212 => 169 | 51 => 170 | 20 => 20 | 213 => 171 | 46 => 166 | 232 => 181 | 233 => 182 | n => n, fun | 17 => 1 | 18 => 4 | 19 => 5 | n => n⟩
theorem Tryz.laysM171 : Go.Proofs.LaysM.n171 Tryz.prog Tryz.laysM171_ren := {
  mixed := by kernel_rfl
  f129 := Tryz.func162.trans (congrArg some (by kernel_rfl))
  f171 := Tryz.func37.trans (congrArg some (by kernel_rfl))
  f243 := Tryz.func67.trans (congrArg some (by kernel_rfl))
  f246 := Tryz.func101.trans (congrArg some (by kernel_rfl))
  f283 := Tryz.func139.trans (congrArg some (by kernel_rfl))
  f284 := Tryz.func140.trans (congrArg some (by kernel_rfl))
  f285 := Tryz.func141.trans (congrArg some (by kernel_rfl))
  f286 := Tryz.func142.trans (congrArg some (by kernel_rfl))
  f317 := Tryz.func161.trans (congrArg some (by kernel_rfl))
  f318 := Tryz.func163.trans (congrArg some (by kernel_rfl))
  f319 := Tryz.func164.trans (congrArg some (by kernel_rfl))
  f320 := Tryz.func165.trans (congrArg some (by kernel_rfl))
  f337 := Tryz.func170.trans (congrArg some (by kernel_rfl))
  f338 := Tryz.func171.trans (congrArg some (by kernel_rfl))
  t0 := Tryz.underlying0
  a0 := Tryz.isAgg0
  z0 := Tryz.sizeOf0
  v0 := Tryz.zeroValue0
  t2 := Tryz.underlying2
  a2 := Tryz.isAgg2
  z2 := Tryz.sizeOf2
  v2 := Tryz.zeroValue2
  t3 := Tryz.underlying3
  a3 := Tryz.isAgg3
  z3 := Tryz.sizeOf3
  v3 := Tryz.zeroValue3
  t4 := Tryz.underlying4
  a4 := Tryz.isAgg4
  z4 := Tryz.sizeOf4
  v4 := Tryz.zeroValue4
  t5 := Tryz.underlying5
  a5 := Tryz.isAgg5
  z5 := Tryz.sizeOf5
  v5 := Tryz.zeroValue5
  t9 := Tryz.underlying9
  a9 := Tryz.isAgg9
  z9 := Tryz.sizeOf9
  v9 := Tryz.zeroValue9
  t20 := Tryz.underlying20
  a20 := Tryz.isAgg20
  z20 := Tryz.sizeOf20
  v20 := Tryz.zeroValue20
  t37 := Tryz.underlying61
  a37 := Tryz.isAgg61
  z37 := Tryz.sizeOf61
  v37 := Tryz.zeroValue61
  t46 := Tryz.underlying166
  a46 := Tryz.isAgg166
  z46 := Tryz.sizeOf166
  v46 := Tryz.zeroValue166
  t51 := Tryz.underlying170
  a51 := Tryz.isAgg170
  z51 := Tryz.sizeOf170
  v51 := Tryz.zeroValue170
  t53 := Tryz.underlying151
  a53 := Tryz.isAgg151
  z53 := Tryz.sizeOf151
  v53 := Tryz.zeroValue151
  t171 := Tryz.underlying150
  a171 := Tryz.isAgg150
  z171 := Tryz.sizeOf150
  v171 := Tryz.zeroValue150
  t173 := Tryz.underlying154
  a173 := Tryz.isAgg154
  z173 := Tryz.sizeOf154
  v173 := Tryz.zeroValue154
  t212 := Tryz.underlying169
  a212 := Tryz.isAgg169
  z212 := Tryz.sizeOf169
  v212 := Tryz.zeroValue169
  t213 := Tryz.underlying171
  a213 := Tryz.isAgg171
  z213 := Tryz.sizeOf171
  t232 := Tryz.underlying181
  a232 := Tryz.isAgg181
  z232 := Tryz.sizeOf181
  v232 := Tryz.zeroValue181
  t233 := Tryz.underlying182
  a233 := Tryz.isAgg182
  z233 := Tryz.sizeOf182
  v233 := Tryz.zeroValue182
  g17 := by kernel_rfl
  g18 := by kernel_rfl
  g19 := by kernel_rfl
  i0 := by kernel_rfl
  i2 := by kernel_rfl
  i3 := by kernel_rfl
  i4 := by kernel_rfl
  i5 := by kernel_rfl
  i9 := by kernel_rfl
  i20 := by kernel_rfl
  i37 := by kernel_rfl
  i46 := by kernel_rfl
  i51 := by kernel_rfl
  i53 := by kernel_rfl
  i171 := by kernel_rfl
  i173 := by kernel_rfl
  i212 := by kernel_rfl
  i232 := by kernel_rfl
  i233 := by kernel_rfl
  m17 := by kernel_rfl
  m18 := by kernel_rfl
  m19 := by kernel_rfl }
open Go.RowKit Go.Sort Go.Lib in
/-- strconv.Itoa: "Itoa is equivalent to FormatInt(int64(i), 10).": i's DECIMAL NUMERAL ('Lib.itoa': a '-' where i is negative, then the digits), FOR EVERY int. The world behind the call: the world before it, new blocks behind the heap (the library's 'var a [24]byte'), draws. (LAID: no walk: one application.) -/
theorem Tryz.strconv_Itoa (n : Int) (h0 : -9223372036854775808 ≤ n) (h1 : n ≤ 9223372036854775807) (w : World) (htab : Lib.TabIs Tryz.prog w "internal/strconv.uint64pow10" .u64 Lib.pow10Tab) :
    Calls Tryz.prog 37 #[.int .i64 n] w fun e w' => e = .returned (.string ⟨(Lib.itoa n).toArray⟩) ∧ ∃ k os, w' = grow (w.drewN k) os := Any.strconv_Itoa Tryz.laysM171 n h0 h1 w htab
def Tryz.lays171_ren : Go.Shelf.Ren := ⟨fun | 171 => 37 | 243 => 67 | 246 => 101 | 283 => 139 | 284 => 140 | 285 => 141 | 286 => 142 | 129 => 162 | 317 => 161 | 318 => 163 | 319 => 164 | 320 => 165 | 337 => 170 | 338 => 171 | n => n, fun | 3 => 3 | 9 => 9 | 2 => 2 | 4 => 4 | 171 => 150 | 0 => 0 | 53 => 151 | 37 => 61 | 5 => 5 | 173 => 154 | 212 => 169 | 51 => 170 | 20 => 20 | 213 => 171 | 46 => 166 | 232 => 181 | 233 => 182 | n => n, fun | 17 => 1 | 18 => 4 | 19 => 5 | n => n⟩
theorem Tryz.lays171 : Go.Proofs.Lays.n171 Tryz.prog Tryz.lays171_ren := {
  mixed := by kernel_rfl
  f129 := Tryz.func162.trans (congrArg some (by kernel_rfl))
  f171 := Tryz.func37.trans (congrArg some (by kernel_rfl))
  f243 := Tryz.func67.trans (congrArg some (by kernel_rfl))
  f246 := Tryz.func101.trans (congrArg some (by kernel_rfl))
  f283 := Tryz.func139.trans (congrArg some (by kernel_rfl))
  f284 := Tryz.func140.trans (congrArg some (by kernel_rfl))
  f285 := Tryz.func141.trans (congrArg some (by kernel_rfl))
  f286 := Tryz.func142.trans (congrArg some (by kernel_rfl))
  f317 := Tryz.func161.trans (congrArg some (by kernel_rfl))
  f318 := Tryz.func163.trans (congrArg some (by kernel_rfl))
  f319 := Tryz.func164.trans (congrArg some (by kernel_rfl))
  f320 := Tryz.func165.trans (congrArg some (by kernel_rfl))
  f337 := Tryz.func170.trans (congrArg some (by kernel_rfl))
  f338 := Tryz.func171.trans (congrArg some (by kernel_rfl))
  t0 := Tryz.underlying0
  a0 := Tryz.isAgg0
  z0 := Tryz.sizeOf0
  v0 := Tryz.zeroValue0
  t2 := Tryz.underlying2
  a2 := Tryz.isAgg2
  z2 := Tryz.sizeOf2
  v2 := Tryz.zeroValue2
  t3 := Tryz.underlying3
  a3 := Tryz.isAgg3
  z3 := Tryz.sizeOf3
  v3 := Tryz.zeroValue3
  t4 := Tryz.underlying4
  a4 := Tryz.isAgg4
  z4 := Tryz.sizeOf4
  v4 := Tryz.zeroValue4
  t5 := Tryz.underlying5
  a5 := Tryz.isAgg5
  z5 := Tryz.sizeOf5
  v5 := Tryz.zeroValue5
  t9 := Tryz.underlying9
  a9 := Tryz.isAgg9
  z9 := Tryz.sizeOf9
  v9 := Tryz.zeroValue9
  t20 := Tryz.underlying20
  a20 := Tryz.isAgg20
  z20 := Tryz.sizeOf20
  v20 := Tryz.zeroValue20
  t37 := Tryz.underlying61
  a37 := Tryz.isAgg61
  z37 := Tryz.sizeOf61
  v37 := Tryz.zeroValue61
  t46 := Tryz.underlying166
  a46 := Tryz.isAgg166
  z46 := Tryz.sizeOf166
  v46 := Tryz.zeroValue166
  t51 := Tryz.underlying170
  a51 := Tryz.isAgg170
  z51 := Tryz.sizeOf170
  v51 := Tryz.zeroValue170
  t53 := Tryz.underlying151
  a53 := Tryz.isAgg151
  z53 := Tryz.sizeOf151
  v53 := Tryz.zeroValue151
  t171 := Tryz.underlying150
  a171 := Tryz.isAgg150
  z171 := Tryz.sizeOf150
  v171 := Tryz.zeroValue150
  t173 := Tryz.underlying154
  a173 := Tryz.isAgg154
  z173 := Tryz.sizeOf154
  v173 := Tryz.zeroValue154
  t212 := Tryz.underlying169
  a212 := Tryz.isAgg169
  z212 := Tryz.sizeOf169
  v212 := Tryz.zeroValue169
  t213 := Tryz.underlying171
  a213 := Tryz.isAgg171
  z213 := Tryz.sizeOf171
  t232 := Tryz.underlying181
  a232 := Tryz.isAgg181
  z232 := Tryz.sizeOf181
  v232 := Tryz.zeroValue181
  t233 := Tryz.underlying182
  a233 := Tryz.isAgg182
  z233 := Tryz.sizeOf182
  v233 := Tryz.zeroValue182
  g17 := by kernel_rfl
  g18 := by kernel_rfl
  g19 := by kernel_rfl }
open Go.RowKit Go.Sort Go.Lib in
/-- THE ROAD WITHOUT THE TABLE: 0 <= i < 100: NO PREMISE ON THE WORLD, AND THE WORLD IS AS IT WAS: a row that keeps its argument in that range need list no table ('laid = []'). (LAID: no walk: one application.) -/
theorem Tryz.strconv_Itoa_small (i : Nat) (hi : i < 100) (w : World) :
    Calls Tryz.prog 37 #[.int .i64 i] w fun e w' => e = .returned (.string ⟨(Lib.decDigits i).toArray⟩) ∧ w' = w := Any.strconv_Itoa_small Tryz.lays171 i hi w
def Tryz.laysM316_ren : Go.Shelf.Ren := ⟨fun | 316 => 78 | n => n, fun | 9 => 9 | 3 => 3 | 4 => 4 | 37 => 61 | 0 => 0 | 127 => 91 | 5 => 5 | n => n, fun | n => n⟩
theorem Tryz.laysM316 : Go.Proofs.LaysM.n316 Tryz.prog Tryz.laysM316_ren := {
  mixed := by kernel_rfl
  f316 := Tryz.func78.trans (congrArg some (by kernel_rfl))
  t0 := Tryz.underlying0
  a0 := Tryz.isAgg0
  z0 := Tryz.sizeOf0
  v0 := Tryz.zeroValue0
  t3 := Tryz.underlying3
  a3 := Tryz.isAgg3
  z3 := Tryz.sizeOf3
  v3 := Tryz.zeroValue3
  t4 := Tryz.underlying4
  a4 := Tryz.isAgg4
  z4 := Tryz.sizeOf4
  v4 := Tryz.zeroValue4
  t9 := Tryz.underlying9
  a9 := Tryz.isAgg9
  z9 := Tryz.sizeOf9
  v9 := Tryz.zeroValue9
  t37 := Tryz.underlying61
  a37 := Tryz.isAgg61
  z37 := Tryz.sizeOf61
  v37 := Tryz.zeroValue61
  t127 := Tryz.underlying91
  a127 := Tryz.isAgg91
  z127 := Tryz.sizeOf91
  v127 := Tryz.zeroValue91
  t5 := Tryz.underlying5
  a5 := Tryz.isAgg5
  z5 := Tryz.sizeOf5
  v5 := Tryz.zeroValue5
  i0 := by kernel_rfl
  i3 := by kernel_rfl
  i4 := by kernel_rfl
  i5 := by kernel_rfl
  i9 := by kernel_rfl
  i37 := by kernel_rfl
  i127 := by kernel_rfl }
open Go.RowKit in
/-- internal/stringslite.Clone (what strings.Clone calls): "Clone returns a fresh copy of s.": THE SAME BYTES. Of what was there nothing has turned (a new row is laid, and frozen, where s is not empty). (LAID: no walk: one application.) -/
theorem Tryz.stringslite_Clone (s : ByteArray) (w : World) (hlim : s.size ≤ 281474976710656) :
    Calls Tryz.prog 78 #[.string s] w fun e w' => e = .returned (.string s) ∧ Below w.heap.size w w' := Any.stringslite_Clone Tryz.laysM316 s w hlim
def Tryz.lays145_ren : Go.Shelf.Ren := ⟨fun | 145 => 52 | 220 => 82 | 219 => 123 | 217 => 153 | 225 => 154 | 224 => 155 | 267 => 156 | 266 => 168 | 314 => 169 | n => n, fun | 9 => 9 | 4 => 4 | 59 => 79 | 3 => 3 | 5 => 5 | 46 => 166 | 146 => 174 | 51 => 170 | n => n, fun | 1 => 0 | n => n⟩
theorem Tryz.lays145 : Go.Proofs.Lays.n145 Tryz.prog Tryz.lays145_ren := {
  mixed := by kernel_rfl
  f145 := Tryz.func52.trans (congrArg some (by kernel_rfl))
  f217 := Tryz.func153.trans (congrArg some (by kernel_rfl))
  f219 := Tryz.func123.trans (congrArg some (by kernel_rfl))
  f220 := Tryz.func82.trans (congrArg some (by kernel_rfl))
  f224 := Tryz.func155.trans (congrArg some (by kernel_rfl))
  f225 := Tryz.func154.trans (congrArg some (by kernel_rfl))
  f266 := Tryz.func168.trans (congrArg some (by kernel_rfl))
  f267 := Tryz.func156.trans (congrArg some (by kernel_rfl))
  f314 := Tryz.func169.trans (congrArg some (by kernel_rfl))
  t3 := Tryz.underlying3
  a3 := Tryz.isAgg3
  z3 := Tryz.sizeOf3
  v3 := Tryz.zeroValue3
  t4 := Tryz.underlying4
  a4 := Tryz.isAgg4
  z4 := Tryz.sizeOf4
  v4 := Tryz.zeroValue4
  t5 := Tryz.underlying5
  a5 := Tryz.isAgg5
  z5 := Tryz.sizeOf5
  v5 := Tryz.zeroValue5
  t9 := Tryz.underlying9
  a9 := Tryz.isAgg9
  z9 := Tryz.sizeOf9
  v9 := Tryz.zeroValue9
  t46 := Tryz.underlying166
  a46 := Tryz.isAgg166
  z46 := Tryz.sizeOf166
  v46 := Tryz.zeroValue166
  t51 := Tryz.underlying170
  a51 := Tryz.isAgg170
  z51 := Tryz.sizeOf170
  v51 := Tryz.zeroValue170
  t59 := Tryz.underlying79
  a59 := Tryz.isAgg79
  z59 := Tryz.sizeOf79
  v59 := Tryz.zeroValue79
  t146 := Tryz.underlying174
  a146 := Tryz.isAgg174
  z146 := Tryz.sizeOf174
  v146 := Tryz.zeroValue174
  g1 := by kernel_rfl }
open Go.RowKit Go.Lib in
/-- strings.Cut: "Cut slices s around the first instance of sep, returning the text before and after sep. The found result reports whether sep appears in s. If sep does not appear in s, cut returns s, "", false.": IT RETURNS 'Lib.cut s sep'; the world is as it was but for the count of draws. (LAID: no walk: one application.) -/
theorem Tryz.strings_Cut (s sep : ByteArray) (m : Int) (w : World) (hs : s.size < 4294967281) (hm : w.cell? ⟨0, 0, none⟩ = some (.int .i64 m)) :
    Calls Tryz.prog 52 #[.string s, .string sep] w fun e w' => e = .returned (.tuple #[.string ⟨(Lib.cut s.data.toList sep.data.toList).1.toArray⟩, .string ⟨(Lib.cut s.data.toList sep.data.toList).2.1.toArray⟩, .bool (Lib.cut s.data.toList sep.data.toList).2.2]) ∧ ∃ n, w' = w.drewN n := Any.strings_Cut Tryz.lays145 s sep m w hs hm
def Tryz.lays206_ren : Go.Shelf.Ren := ⟨fun | 206 => 79 | n => n, fun | 9 => 9 | 4 => 4 | 3 => 3 | n => n, fun | n => n⟩
theorem Tryz.lays206 : Go.Proofs.Lays.n206 Tryz.prog Tryz.lays206_ren := {
  mixed := by kernel_rfl
  f206 := Tryz.func79.trans (congrArg some (by kernel_rfl))
  t3 := Tryz.underlying3
  a3 := Tryz.isAgg3
  z3 := Tryz.sizeOf3
  v3 := Tryz.zeroValue3
  t4 := Tryz.underlying4
  a4 := Tryz.isAgg4
  z4 := Tryz.sizeOf4
  v4 := Tryz.zeroValue4
  t9 := Tryz.underlying9
  a9 := Tryz.isAgg9
  z9 := Tryz.sizeOf9
  v9 := Tryz.zeroValue9 }
open Go.RowKit Go.Lib in
/-- internal/stringslite.HasPrefix (what strings.HasPrefix calls). (LAID: no walk: one application.) -/
theorem Tryz.stringslite_HasPrefix (s p : ByteArray) (w : World) :
    Calls Tryz.prog 79 #[.string s, .string p] w fun e w' => e = .returned (.bool (Lib.hasPrefix s.data.toList p.data.toList)) ∧ w' = w := Any.stringslite_HasPrefix Tryz.lays206 s p w
def Tryz.lays146_ren : Go.Shelf.Ren := ⟨fun | 146 => 48 | 221 => 77 | 268 => 109 | 138 => 110 | 143 => 111 | 195 => 147 | 197 => 148 | 218 => 149 | 219 => 123 | 260 => 166 | 217 => 153 | 225 => 154 | 224 => 155 | 267 => 156 | 266 => 168 | 314 => 169 | n => n, fun | 9 => 9 | 31 => 22 | 3 => 3 | 4 => 4 | 0 => 0 | 105 => 159 | 21 => 21 | 5 => 5 | 46 => 166 | 119 => 177 | 139 => 180 | 138 => 179 | 146 => 174 | 51 => 170 | n => n, fun | 1 => 0 | 3 => 2 | 4 => 3 | n => n⟩
theorem Tryz.lays146 : Go.Proofs.Lays.n146 Tryz.prog Tryz.lays146_ren := {
  mixed := by kernel_rfl
  f138 := Tryz.func110.trans (congrArg some (by kernel_rfl))
  f143 := Tryz.func111.trans (congrArg some (by kernel_rfl))
  f146 := Tryz.func48.trans (congrArg some (by kernel_rfl))
  f195 := Tryz.func147.trans (congrArg some (by kernel_rfl))
  f197 := Tryz.func148.trans (congrArg some (by kernel_rfl))
  f217 := Tryz.func153.trans (congrArg some (by kernel_rfl))
  f218 := Tryz.func149.trans (congrArg some (by kernel_rfl))
  f219 := Tryz.func123.trans (congrArg some (by kernel_rfl))
  f221 := Tryz.func77.trans (congrArg some (by kernel_rfl))
  f224 := Tryz.func155.trans (congrArg some (by kernel_rfl))
  f225 := Tryz.func154.trans (congrArg some (by kernel_rfl))
  f260 := Tryz.func166.trans (congrArg some (by kernel_rfl))
  f266 := Tryz.func168.trans (congrArg some (by kernel_rfl))
  f267 := Tryz.func156.trans (congrArg some (by kernel_rfl))
  f268 := Tryz.func109.trans (congrArg some (by kernel_rfl))
  f314 := Tryz.func169.trans (congrArg some (by kernel_rfl))
  t0 := Tryz.underlying0
  a0 := Tryz.isAgg0
  z0 := Tryz.sizeOf0
  v0 := Tryz.zeroValue0
  t3 := Tryz.underlying3
  a3 := Tryz.isAgg3
  z3 := Tryz.sizeOf3
  v3 := Tryz.zeroValue3
  t4 := Tryz.underlying4
  a4 := Tryz.isAgg4
  z4 := Tryz.sizeOf4
  v4 := Tryz.zeroValue4
  t5 := Tryz.underlying5
  a5 := Tryz.isAgg5
  z5 := Tryz.sizeOf5
  v5 := Tryz.zeroValue5
  t9 := Tryz.underlying9
  a9 := Tryz.isAgg9
  z9 := Tryz.sizeOf9
  v9 := Tryz.zeroValue9
  t21 := Tryz.underlying21
  a21 := Tryz.isAgg21
  z21 := Tryz.sizeOf21
  v21 := Tryz.zeroValue21
  t31 := Tryz.underlying22
  a31 := Tryz.isAgg22
  z31 := Tryz.sizeOf22
  v31 := Tryz.zeroValue22
  t46 := Tryz.underlying166
  a46 := Tryz.isAgg166
  z46 := Tryz.sizeOf166
  v46 := Tryz.zeroValue166
  t51 := Tryz.underlying170
  a51 := Tryz.isAgg170
  z51 := Tryz.sizeOf170
  v51 := Tryz.zeroValue170
  t105 := Tryz.underlying159
  a105 := Tryz.isAgg159
  z105 := Tryz.sizeOf159
  v105 := Tryz.zeroValue159
  t119 := Tryz.underlying177
  a119 := Tryz.isAgg177
  z119 := Tryz.sizeOf177
  t138 := Tryz.underlying179
  a138 := Tryz.isAgg179
  z138 := Tryz.sizeOf179
  v138 := Tryz.zeroValue179
  t139 := Tryz.underlying180
  a139 := Tryz.isAgg180
  z139 := Tryz.sizeOf180
  v139 := Tryz.zeroValue180
  t146 := Tryz.underlying174
  a146 := Tryz.isAgg174
  z146 := Tryz.sizeOf174
  v146 := Tryz.zeroValue174
  g1 := by kernel_rfl
  g3 := by kernel_rfl
  g4 := by kernel_rfl }
open Go.RowKit Go.Lib in
/-- strings.Split. (LAID: no walk: one application.) -/
theorem Tryz.strings_Split (s sep : ByteArray) (m : Int) (w : World) (hs : s.size < 4294967281) (hm : w.cell? ⟨0, 0, none⟩ = some (.int .i64 m)) (h1 : 1 ≤ sep.size) :
    Calls Tryz.prog 48 #[.string s, .string sep] w fun e w' =>
      e = .returned (.slice (some ⟨w.heap.size, 0, none⟩) (Lib.countB s sep + 1) (Lib.countB s sep + 1)) ∧ w' = w.alloc (.cells ((Lib.splitB sep 0 (Lib.countB s sep) s).map Value.string).toArray 9) := Any.strings_Split Tryz.lays146 (by kernel_rfl) s sep m w hs hm h1
def Tryz.lays151_ren : Go.Shelf.Ren := ⟨fun | 151 => 151 | 152 => 167 | 137 => 172 | 119 => 173 | 224 => 155 | 225 => 154 | 217 => 153 | 266 => 168 | n => n, fun | 9 => 9 | 21 => 21 | 4 => 4 | 3 => 3 | 5 => 5 | 0 => 0 | 46 => 166 | n => n, fun | n => n⟩
theorem Tryz.lays151 : Go.Proofs.Lays.n151 Tryz.prog Tryz.lays151_ren := {
  mixed := by kernel_rfl
  f119 := Tryz.func173.trans (congrArg some (by kernel_rfl))
  f137 := Tryz.func172.trans (congrArg some (by kernel_rfl))
  f151 := Tryz.func151.trans (congrArg some (by kernel_rfl))
  f152 := Tryz.func167.trans (congrArg some (by kernel_rfl))
  f217 := Tryz.func153.trans (congrArg some (by kernel_rfl))
  f224 := Tryz.func155.trans (congrArg some (by kernel_rfl))
  f225 := Tryz.func154.trans (congrArg some (by kernel_rfl))
  f266 := Tryz.func168.trans (congrArg some (by kernel_rfl))
  t0 := Tryz.underlying0
  a0 := Tryz.isAgg0
  z0 := Tryz.sizeOf0
  v0 := Tryz.zeroValue0
  t3 := Tryz.underlying3
  a3 := Tryz.isAgg3
  z3 := Tryz.sizeOf3
  v3 := Tryz.zeroValue3
  t4 := Tryz.underlying4
  a4 := Tryz.isAgg4
  z4 := Tryz.sizeOf4
  v4 := Tryz.zeroValue4
  t5 := Tryz.underlying5
  a5 := Tryz.isAgg5
  z5 := Tryz.sizeOf5
  v5 := Tryz.zeroValue5
  t9 := Tryz.underlying9
  a9 := Tryz.isAgg9
  z9 := Tryz.sizeOf9
  v9 := Tryz.zeroValue9
  t21 := Tryz.underlying21
  a21 := Tryz.isAgg21
  z21 := Tryz.sizeOf21
  v21 := Tryz.zeroValue21
  t46 := Tryz.underlying166
  a46 := Tryz.isAgg166
  z46 := Tryz.sizeOf166
  v46 := Tryz.zeroValue166 }
open Go.RowKit Go.Lib in
theorem Tryz.strings_ContainsRune_ascii (s : ByteArray) (r : Int) (w : World) (h0 : 0 ≤ r) (h1 : r < 128) :
    Calls Tryz.prog 151 #[.string s, .int .i32 r] w fun e w' => e = .returned (.bool (decide (0 ≤ Lib.indexByte s.data.toList r.toNat.toUInt8))) ∧ w' = w := Any.strings_ContainsRune_ascii Tryz.lays151 s r w h0 h1
end Go.Proofs
