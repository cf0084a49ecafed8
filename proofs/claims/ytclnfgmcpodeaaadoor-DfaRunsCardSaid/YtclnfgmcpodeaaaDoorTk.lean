/-
  What the types of this program are to the abstract machine. Conditions: those that each theorem names.
-/
import Derived.Test.YtclnfgmcpodeaaaDoorFwB
import Derived.Test.YtclnfgmcpodeaaaDoorProg
namespace Go.Proofs
open Go Go.Fw
theorem tk1 : tk Tryd.prog 1 = some ⟨1, 8, false, .v .nilFunc, .func⟩ := by kernel_rfl
theorem tk2 : tk Tryd.prog 2 = some ⟨1, 8, false, .v (.int .i64 0), .int .i64⟩ := by kernel_rfl
theorem tk3 : tk Tryd.prog 3 = some ⟨1, 8, false, .v (.int .i64 0), .int .i64⟩ := by kernel_rfl
theorem tk4 : tk Tryd.prog 4 = some ⟨1, 1, false, .v (.bool false), .bool⟩ := by kernel_rfl
theorem tk5 : tk Tryd.prog 5 = some ⟨1, 1, false, .v (.int .u8 0), .int .u8⟩ := by kernel_rfl
theorem tk6 : tk Tryd.prog 6 = some ⟨1, 1, false, .v (.int .u8 0), .int .u8⟩ := by kernel_rfl
theorem tk7 : tk Tryd.prog 7 = some ⟨4, 24, true, .agg [.v (.int .i64 0), .v (.int .i64 0), .v (.bool false), .v (.int .u8 0)], .struct [(0, 2), (1, 3), (2, 4), (3, 6)]⟩ := by kernel_rfl
theorem tk8 : tk Tryd.prog 8 = some ⟨4, 24, true, .agg [.v (.int .i64 0), .v (.int .i64 0), .v (.bool false), .v (.int .u8 0)], .struct [(0, 2), (1, 3), (2, 4), (3, 6)]⟩ := by kernel_rfl
theorem tk9 : tk Tryd.prog 9 = some ⟨1, 16, false, .v (str []), .str⟩ := by kernel_rfl
theorem tk10 : tk Tryd.prog 10 = some ⟨1, 16, false, .v (str []), .str⟩ := by kernel_rfl
theorem tk11 : tk Tryd.prog 11 = some ⟨1, 16, false, .v (str []), .str⟩ := by kernel_rfl
theorem tk12 : tk Tryd.prog 12 = some ⟨1, 8, false, .v (.int .u64 0), .int .u64⟩ := by kernel_rfl
theorem tk13 : tk Tryd.prog 13 = some ⟨2, 24, true, .agg [.v (str []), .v (.int .u64 0)], .struct [(0, 9), (1, 12)]⟩ := by kernel_rfl
theorem tk14 : tk Tryd.prog 14 = some ⟨2, 24, true, .agg [.v (str []), .v (.int .u64 0)], .struct [(0, 9), (1, 12)]⟩ := by kernel_rfl
theorem tk15 : tk Tryd.prog 15 = some ⟨1, 8, false, .v (.pointer none), .ptr 160⟩ := by kernel_rfl
theorem tk16 : tk Tryd.prog 16 = some ⟨1, 8, false, .v (.pointer none), .ptr 163⟩ := by kernel_rfl
theorem tk17 : tk Tryd.prog 17 = some ⟨1, 8, false, .v (.pointer none), .ptr 170⟩ := by kernel_rfl
theorem tk18 : tk Tryd.prog 18 = some ⟨1, 8, true, .agg [.v (.pointer none)], .struct [(0, 17)]⟩ := by kernel_rfl
theorem tk19 : tk Tryd.prog 19 = some ⟨1, 8, true, .agg [.v (.pointer none)], .struct [(0, 17)]⟩ := by kernel_rfl
theorem tk20 : tk Tryd.prog 20 = some ⟨1, 16, false, .v .nilIface, .iface⟩ := by kernel_rfl
theorem tk21 : tk Tryd.prog 21 = some ⟨1, 4, false, .v (.int .i32 0), .int .i32⟩ := by kernel_rfl
theorem tk22 : tk Tryd.prog 22 = some ⟨1, 24, false, .v (.slice none 0 0), .slice 3⟩ := by kernel_rfl
theorem tk23 : tk Tryd.prog 23 = some ⟨1, 24, false, .v (.slice none 0 0), .slice 22⟩ := by kernel_rfl
theorem tk24 : tk Tryd.prog 24 = some ⟨1, 24, false, .v (.slice none 0 0), .slice 4⟩ := by kernel_rfl
theorem tk25 : tk Tryd.prog 25 = some ⟨3, 72, true, .agg [.v (.slice none 0 0), .v (.slice none 0 0), .v (.slice none 0 0)], .struct [(0, 22), (1, 23), (2, 24)]⟩ := by kernel_rfl
theorem tk26 : tk Tryd.prog 26 = some ⟨3, 72, true, .agg [.v (.slice none 0 0), .v (.slice none 0 0), .v (.slice none 0 0)], .struct [(0, 22), (1, 23), (2, 24)]⟩ := by kernel_rfl
theorem tk27 : tk Tryd.prog 27 = some ⟨1, 8, false, .v .nilFunc, .func⟩ := by kernel_rfl
theorem tk28 : tk Tryd.prog 28 = some ⟨1, 8, false, .v (.int .i64 0), .int .i64⟩ := by kernel_rfl
theorem tk30 : tk Tryd.prog 30 = some ⟨1, 8, false, .v .nilFunc, .func⟩ := by kernel_rfl
theorem tk31 : tk Tryd.prog 31 = some ⟨1, 8, false, .v .nilFunc, .func⟩ := by kernel_rfl
theorem tk32 : tk Tryd.prog 32 = some ⟨1, 8, false, .v .nilFunc, .func⟩ := by kernel_rfl
theorem tk34 : tk Tryd.prog 34 = some ⟨1, 8, false, .v .nilFunc, .func⟩ := by kernel_rfl
theorem tk35 : tk Tryd.prog 35 = some ⟨1, 24, false, .v (.slice none 0 0), .slice 60⟩ := by kernel_rfl
theorem tk36 : tk Tryd.prog 36 = some ⟨4, 80, true, .agg [.v (.int .i64 0), .v (.slice none 0 0), .v (.slice none 0 0), .v (.slice none 0 0)], .struct [(0, 3), (1, 22), (2, 22), (3, 35)]⟩ := by kernel_rfl
theorem tk37 : tk Tryd.prog 37 = some ⟨4, 80, true, .agg [.v (.int .i64 0), .v (.slice none 0 0), .v (.slice none 0 0), .v (.slice none 0 0)], .struct [(0, 3), (1, 22), (2, 22), (3, 35)]⟩ := by kernel_rfl
theorem tk39 : tk Tryd.prog 39 = some ⟨1, 8, false, .v .nilFunc, .func⟩ := by kernel_rfl
theorem tk40 : tk Tryd.prog 40 = some ⟨1, 8, false, .v .nilFunc, .func⟩ := by kernel_rfl
theorem tk41 : tk Tryd.prog 41 = some ⟨1, 8, false, .v .nilFunc, .func⟩ := by kernel_rfl
theorem tk42 : tk Tryd.prog 42 = some ⟨1, 8, false, .v .nilFunc, .func⟩ := by kernel_rfl
theorem tk43 : tk Tryd.prog 43 = some ⟨1, 8, false, .v .nilFunc, .func⟩ := by kernel_rfl
theorem tk45 : tk Tryd.prog 45 = some ⟨1, 8, false, .v .nilFunc, .func⟩ := by kernel_rfl
theorem tk46 : tk Tryd.prog 46 = some ⟨1, 8, false, .v .nilFunc, .func⟩ := by kernel_rfl
theorem tk47 : tk Tryd.prog 47 = some ⟨1, 8, false, .v .nilFunc, .func⟩ := by kernel_rfl
theorem tk48 : tk Tryd.prog 48 = some ⟨1, 8, false, .v .nilFunc, .func⟩ := by kernel_rfl
theorem tk49 : tk Tryd.prog 49 = some ⟨1, 8, false, .v .nilFunc, .func⟩ := by kernel_rfl
theorem tk50 : tk Tryd.prog 50 = some ⟨1, 24, false, .v (.slice none 0 0), .slice 5⟩ := by kernel_rfl
theorem tk51 : tk Tryd.prog 51 = some ⟨1, 8, false, .v .nilFunc, .func⟩ := by kernel_rfl
theorem tk52 : tk Tryd.prog 52 = some ⟨1, 24, false, .v (.slice none 0 0), .slice 58⟩ := by kernel_rfl
theorem tk54 : tk Tryd.prog 54 = some ⟨1, 8, false, .v .nilFunc, .func⟩ := by kernel_rfl
theorem tk55 : tk Tryd.prog 55 = some ⟨1, 8, false, .v .nilFunc, .func⟩ := by kernel_rfl
theorem tk56 : tk Tryd.prog 56 = some ⟨1, 8, false, .v (.int .u64 0), .int .u64⟩ := by kernel_rfl
theorem tk57 : tk Tryd.prog 57 = some ⟨4, 32, true, .agg [.v (.int .u64 0), .v (.int .u64 0), .v (.int .u64 0), .v (.int .u64 0)], .array 4 56⟩ := by kernel_rfl
theorem tk58 : tk Tryd.prog 58 = some ⟨4, 32, true, .agg [.v (.int .u64 0), .v (.int .u64 0), .v (.int .u64 0), .v (.int .u64 0)], .array 4 56⟩ := by kernel_rfl
theorem tk59 : tk Tryd.prog 59 = some ⟨6, 48, true, .agg [.v (.int .i64 0), .v (.int .i64 0), .v (.int .u64 0), .v (.int .u64 0), .v (.int .u64 0), .v (.int .u64 0)], .struct [(0, 3), (1, 3), (2, 58)]⟩ := by kernel_rfl
theorem tk60 : tk Tryd.prog 60 = some ⟨6, 48, true, .agg [.v (.int .i64 0), .v (.int .i64 0), .v (.int .u64 0), .v (.int .u64 0), .v (.int .u64 0), .v (.int .u64 0)], .struct [(0, 3), (1, 3), (2, 58)]⟩ := by kernel_rfl
theorem tk61 : tk Tryd.prog 61 = some ⟨1, 8, false, .v .nilFunc, .func⟩ := by kernel_rfl
theorem tk62 : tk Tryd.prog 62 = some ⟨1, 8, false, .v .nilFunc, .func⟩ := by kernel_rfl
theorem tk63 : tk Tryd.prog 63 = some ⟨1, 8, false, .v .nilFunc, .func⟩ := by kernel_rfl
theorem tk64 : tk Tryd.prog 64 = some ⟨1, 8, false, .v .nilFunc, .func⟩ := by kernel_rfl
theorem tk65 : tk Tryd.prog 65 = some ⟨1, 8, false, .v (.map none), .map 58 4⟩ := by kernel_rfl
theorem tk66 : tk Tryd.prog 66 = some ⟨1, 24, false, .v (.slice none 0 0), .slice 35⟩ := by kernel_rfl
theorem tk67 : tk Tryd.prog 67 = some ⟨1, 8, false, .v .nilFunc, .func⟩ := by kernel_rfl
theorem tk69 : tk Tryd.prog 69 = some ⟨1, 8, false, .v .nilFunc, .func⟩ := by kernel_rfl
theorem tk70 : tk Tryd.prog 70 = some ⟨1, 8, false, .v (.pointer none), .ptr 102⟩ := by kernel_rfl
theorem tk71 : tk Tryd.prog 71 = some ⟨1, 8, false, .v .nilFunc, .func⟩ := by kernel_rfl
theorem tk73 : tk Tryd.prog 73 = some ⟨1, 8, false, .v .nilFunc, .func⟩ := by kernel_rfl
theorem tk74 : tk Tryd.prog 74 = some ⟨1, 8, false, .v .nilFunc, .func⟩ := by kernel_rfl
theorem tk75 : tk Tryd.prog 75 = some ⟨1, 8, false, .v .nilFunc, .func⟩ := by kernel_rfl
theorem tk76 : tk Tryd.prog 76 = some ⟨1, 8, false, .v .nilFunc, .func⟩ := by kernel_rfl
theorem tk77 : tk Tryd.prog 77 = some ⟨1, 8, false, .v .nilFunc, .func⟩ := by kernel_rfl
theorem tk78 : tk Tryd.prog 78 = some ⟨1, 8, false, .v .nilFunc, .func⟩ := by kernel_rfl
theorem tk79 : tk Tryd.prog 79 = some ⟨1, 8, false, .v .nilFunc, .func⟩ := by kernel_rfl
theorem tk80 : tk Tryd.prog 80 = some ⟨1, 8, false, .v .nilFunc, .func⟩ := by kernel_rfl
theorem tk81 : tk Tryd.prog 81 = some ⟨1, 8, false, .v .nilFunc, .func⟩ := by kernel_rfl
theorem tk82 : tk Tryd.prog 82 = some ⟨1, 8, false, .v .nilFunc, .func⟩ := by kernel_rfl
theorem tk83 : tk Tryd.prog 83 = some ⟨1, 8, false, .v .nilFunc, .func⟩ := by kernel_rfl
theorem tk84 : tk Tryd.prog 84 = some ⟨1, 8, false, .v .nilFunc, .func⟩ := by kernel_rfl
theorem tk85 : tk Tryd.prog 85 = some ⟨1, 8, false, .v (.map none), .map 3 4⟩ := by kernel_rfl
theorem tk86 : tk Tryd.prog 86 = some ⟨1, 8, false, .v .nilFunc, .func⟩ := by kernel_rfl
theorem tk87 : tk Tryd.prog 87 = some ⟨1, 8, false, .v (.pointer none), .ptr 89⟩ := by kernel_rfl
theorem tk88 : tk Tryd.prog 88 = some ⟨5, 88, true, .agg [.v (.int .i64 0), .v (.slice none 0 0), .v (.slice none 0 0), .v (.slice none 0 0), .v (.bool false)], .struct [(0, 37), (4, 4)]⟩ := by kernel_rfl
theorem tk89 : tk Tryd.prog 89 = some ⟨5, 88, true, .agg [.v (.int .i64 0), .v (.slice none 0 0), .v (.slice none 0 0), .v (.slice none 0 0), .v (.bool false)], .struct [(0, 37), (4, 4)]⟩ := by kernel_rfl
theorem tk90 : tk Tryd.prog 90 = some ⟨1, 8, false, .v .nilFunc, .func⟩ := by kernel_rfl
theorem tk91 : tk Tryd.prog 91 = some ⟨1, 8, false, .v .nilFunc, .func⟩ := by kernel_rfl
theorem tk92 : tk Tryd.prog 92 = some ⟨1, 8, false, .v .nilFunc, .func⟩ := by kernel_rfl
theorem tk93 : tk Tryd.prog 93 = some ⟨1, 8, false, .v .nilFunc, .func⟩ := by kernel_rfl
theorem tk94 : tk Tryd.prog 94 = some ⟨1, 8, false, .v .nilFunc, .func⟩ := by kernel_rfl
theorem tk95 : tk Tryd.prog 95 = some ⟨1, 8, false, .v .nilFunc, .func⟩ := by kernel_rfl
theorem tk96 : tk Tryd.prog 96 = some ⟨1, 8, false, .v .nilFunc, .func⟩ := by kernel_rfl
theorem tk97 : tk Tryd.prog 97 = some ⟨1, 8, false, .v (.map none), .map 9 3⟩ := by kernel_rfl
theorem tk99 : tk Tryd.prog 99 = some ⟨2, 32, true, .agg [.v (.map none), .v (.slice none 0 0)], .struct [(0, 97), (1, 23)]⟩ := by kernel_rfl
theorem tk100 : tk Tryd.prog 100 = some ⟨2, 32, true, .agg [.v (.map none), .v (.slice none 0 0)], .struct [(0, 97), (1, 23)]⟩ := by kernel_rfl
theorem tk101 : tk Tryd.prog 101 = some ⟨2, 32, true, .agg [.v (.map none), .v (.slice none 0 0)], .struct [(0, 100)]⟩ := by kernel_rfl
theorem tk102 : tk Tryd.prog 102 = some ⟨2, 32, true, .agg [.v (.map none), .v (.slice none 0 0)], .struct [(0, 100)]⟩ := by kernel_rfl
theorem tk103 : tk Tryd.prog 103 = some ⟨1, 8, false, .v .nilFunc, .func⟩ := by kernel_rfl
theorem tk104 : tk Tryd.prog 104 = some ⟨1, 8, false, .v .nilFunc, .func⟩ := by kernel_rfl
theorem tk105 : tk Tryd.prog 105 = some ⟨1, 8, false, .v .nilFunc, .func⟩ := by kernel_rfl
theorem tk106 : tk Tryd.prog 106 = some ⟨1, 8, false, .v .nilFunc, .func⟩ := by kernel_rfl
theorem tk107 : tk Tryd.prog 107 = some ⟨1, 8, false, .v .nilFunc, .func⟩ := by kernel_rfl
theorem tk108 : tk Tryd.prog 108 = some ⟨1, 8, false, .v .nilFunc, .func⟩ := by kernel_rfl
theorem tk109 : tk Tryd.prog 109 = some ⟨1, 24, false, .v (.slice none 0 0), .slice 37⟩ := by kernel_rfl
theorem tk110 : tk Tryd.prog 110 = some ⟨1, 8, false, .v .nilFunc, .func⟩ := by kernel_rfl
theorem tk111 : tk Tryd.prog 111 = some ⟨1, 8, false, .v .nilFunc, .func⟩ := by kernel_rfl
theorem tk112 : tk Tryd.prog 112 = some ⟨1, 8, false, .v .nilFunc, .func⟩ := by kernel_rfl
theorem tk113 : tk Tryd.prog 113 = some ⟨1, 8, false, .v (.int .u64 0), .int .u64⟩ := by kernel_rfl
theorem tk114 : tk Tryd.prog 114 = some ⟨1, 8, false, .v (.pointer none), .ptr 116⟩ := by kernel_rfl
theorem tk115 : tk Tryd.prog 115 = some ⟨2, 32, true, .agg [.v (.pointer none), .v (.slice none 0 0)], .struct [(0, 114), (1, 50)]⟩ := by kernel_rfl
theorem tk116 : tk Tryd.prog 116 = some ⟨2, 32, true, .agg [.v (.pointer none), .v (.slice none 0 0)], .struct [(0, 114), (1, 50)]⟩ := by kernel_rfl
theorem tk117 : tk Tryd.prog 117 = some ⟨1, 16, false, .v .nilIface, .iface⟩ := by kernel_rfl
theorem tk118 : tk Tryd.prog 118 = some ⟨1, 16, false, .v .nilIface, .iface⟩ := by kernel_rfl
theorem tk120 : tk Tryd.prog 120 = some ⟨1, 8, false, .v .nilFunc, .func⟩ := by kernel_rfl
theorem tk121 : tk Tryd.prog 121 = some ⟨1, 8, false, .v .nilFunc, .func⟩ := by kernel_rfl
theorem tk122 : tk Tryd.prog 122 = some ⟨1, 8, false, .v .nilFunc, .func⟩ := by kernel_rfl
theorem tk123 : tk Tryd.prog 123 = some ⟨1, 8, false, .v (.pointer none), .ptr 100⟩ := by kernel_rfl
theorem tk124 : tk Tryd.prog 124 = some ⟨1, 8, false, .v .nilFunc, .func⟩ := by kernel_rfl
theorem tk125 : tk Tryd.prog 125 = some ⟨1, 8, false, .v .nilFunc, .func⟩ := by kernel_rfl
theorem tk126 : tk Tryd.prog 126 = some ⟨1, 8, false, .v (.int .i64 0), .int .i64⟩ := by kernel_rfl
theorem tk128 : tk Tryd.prog 128 = some ⟨1, 8, false, .v .nilFunc, .func⟩ := by kernel_rfl
theorem tk129 : tk Tryd.prog 129 = some ⟨1, 8, false, .v .nilFunc, .func⟩ := by kernel_rfl
theorem tk130 : tk Tryd.prog 130 = some ⟨1, 8, false, .v .nilFunc, .func⟩ := by kernel_rfl
theorem tk131 : tk Tryd.prog 131 = some ⟨1, 8, false, .v .nilFunc, .func⟩ := by kernel_rfl
theorem tk132 : tk Tryd.prog 132 = some ⟨1, 8, false, .v .nilFunc, .func⟩ := by kernel_rfl
theorem tk133 : tk Tryd.prog 133 = some ⟨1, 8, false, .v .nilFunc, .func⟩ := by kernel_rfl
theorem tk134 : tk Tryd.prog 134 = some ⟨1, 4, false, .v (.int .u32 0), .int .u32⟩ := by kernel_rfl
theorem tk135 : tk Tryd.prog 135 = some ⟨1, 8, false, .v .nilFunc, .func⟩ := by kernel_rfl
theorem tk136 : tk Tryd.prog 136 = some ⟨1, 8, false, .v (.pointer none), .ptr 5⟩ := by kernel_rfl
theorem tk137 : tk Tryd.prog 137 = some ⟨1, 8, false, .v (.int .u64 0), .int .u64⟩ := by kernel_rfl
theorem tk138 : tk Tryd.prog 138 = some ⟨1, 8, false, .v .nilFunc, .func⟩ := by kernel_rfl
theorem tk139 : tk Tryd.prog 139 = some ⟨1, 8, false, .v .nilFunc, .func⟩ := by kernel_rfl
theorem tk140 : tk Tryd.prog 140 = some ⟨1, 8, false, .v .nilFunc, .func⟩ := by kernel_rfl
theorem tk141 : tk Tryd.prog 141 = some ⟨1, 8, false, .v (.pointer none), .ptr 3⟩ := by kernel_rfl
theorem tk142 : tk Tryd.prog 142 = some ⟨1, 8, false, .v .nilFunc, .func⟩ := by kernel_rfl
theorem tk143 : tk Tryd.prog 143 = some ⟨1, 8, false, .v (.pointer none), .other⟩ := by kernel_rfl
theorem tk144 : tk Tryd.prog 144 = some ⟨1, 8, false, .v .nilFunc, .func⟩ := by kernel_rfl
theorem tk145 : tk Tryd.prog 145 = some ⟨1, 8, false, .v .nilFunc, .func⟩ := by kernel_rfl
theorem tk146 : tk Tryd.prog 146 = some ⟨1, 8, false, .v (.pointer none), .ptr 137⟩ := by kernel_rfl
theorem tk148 : tk Tryd.prog 148 = some ⟨1, 8, false, .v .nilFunc, .func⟩ := by kernel_rfl
theorem tk149 : tk Tryd.prog 149 = some ⟨24, 24, true, .agg [.v (.int .u8 0), .v (.int .u8 0), .v (.int .u8 0), .v (.int .u8 0), .v (.int .u8 0), .v (.int .u8 0), .v (.int .u8 0), .v (.int .u8 0), .v (.int .u8 0), .v (.int .u8 0), .v (.int .u8 0), .v (.int .u8 0), .v (.int .u8 0), .v (.int .u8 0), .v (.int .u8 0), .v (.int .u8 0), .v (.int .u8 0), .v (.int .u8 0), .v (.int .u8 0), .v (.int .u8 0), .v (.int .u8 0), .v (.int .u8 0), .v (.int .u8 0), .v (.int .u8 0)], .array 24 5⟩ := by kernel_rfl
theorem tk150 : tk Tryd.prog 150 = some ⟨1, 8, false, .v .nilFunc, .func⟩ := by kernel_rfl
theorem tk152 : tk Tryd.prog 152 = some ⟨1, 8, false, .v .nilFunc, .func⟩ := by kernel_rfl
theorem tk153 : tk Tryd.prog 153 = some ⟨1, 8, false, .v .nilFunc, .func⟩ := by kernel_rfl
theorem tk154 : tk Tryd.prog 154 = some ⟨1, 8, false, .v .nilFunc, .func⟩ := by kernel_rfl
theorem tk155 : tk Tryd.prog 155 = some ⟨20, 160, true, .agg [.v (.int .u64 0), .v (.int .u64 0), .v (.int .u64 0), .v (.int .u64 0), .v (.int .u64 0), .v (.int .u64 0), .v (.int .u64 0), .v (.int .u64 0), .v (.int .u64 0), .v (.int .u64 0), .v (.int .u64 0), .v (.int .u64 0), .v (.int .u64 0), .v (.int .u64 0), .v (.int .u64 0), .v (.int .u64 0), .v (.int .u64 0), .v (.int .u64 0), .v (.int .u64 0), .v (.int .u64 0)], .array 20 56⟩ := by kernel_rfl
theorem tk157 : tk Tryd.prog 157 = some ⟨32, 32, true, .agg [.v (.int .u8 0), .v (.int .u8 0), .v (.int .u8 0), .v (.int .u8 0), .v (.int .u8 0), .v (.int .u8 0), .v (.int .u8 0), .v (.int .u8 0), .v (.int .u8 0), .v (.int .u8 0), .v (.int .u8 0), .v (.int .u8 0), .v (.int .u8 0), .v (.int .u8 0), .v (.int .u8 0), .v (.int .u8 0), .v (.int .u8 0), .v (.int .u8 0), .v (.int .u8 0), .v (.int .u8 0), .v (.int .u8 0), .v (.int .u8 0), .v (.int .u8 0), .v (.int .u8 0), .v (.int .u8 0), .v (.int .u8 0), .v (.int .u8 0), .v (.int .u8 0), .v (.int .u8 0), .v (.int .u8 0), .v (.int .u8 0), .v (.int .u8 0)], .array 32 5⟩ := by kernel_rfl
theorem tk158 : tk Tryd.prog 158 = some ⟨64, 64, true, .agg [.v (.int .u8 0), .v (.int .u8 0), .v (.int .u8 0), .v (.int .u8 0), .v (.int .u8 0), .v (.int .u8 0), .v (.int .u8 0), .v (.int .u8 0), .v (.int .u8 0), .v (.int .u8 0), .v (.int .u8 0), .v (.int .u8 0), .v (.int .u8 0), .v (.int .u8 0), .v (.int .u8 0), .v (.int .u8 0), .v (.int .u8 0), .v (.int .u8 0), .v (.int .u8 0), .v (.int .u8 0), .v (.int .u8 0), .v (.int .u8 0), .v (.int .u8 0), .v (.int .u8 0), .v (.int .u8 0), .v (.int .u8 0), .v (.int .u8 0), .v (.int .u8 0), .v (.int .u8 0), .v (.int .u8 0), .v (.int .u8 0), .v (.int .u8 0), .v (.int .u8 0), .v (.int .u8 0), .v (.int .u8 0), .v (.int .u8 0), .v (.int .u8 0), .v (.int .u8 0), .v (.int .u8 0), .v (.int .u8 0), .v (.int .u8 0), .v (.int .u8 0), .v (.int .u8 0), .v (.int .u8 0), .v (.int .u8 0), .v (.int .u8 0), .v (.int .u8 0), .v (.int .u8 0), .v (.int .u8 0), .v (.int .u8 0), .v (.int .u8 0), .v (.int .u8 0), .v (.int .u8 0), .v (.int .u8 0), .v (.int .u8 0), .v (.int .u8 0), .v (.int .u8 0), .v (.int .u8 0), .v (.int .u8 0), .v (.int .u8 0), .v (.int .u8 0), .v (.int .u8 0), .v (.int .u8 0), .v (.int .u8 0)], .array 64 5⟩ := by kernel_rfl
theorem tk159 : tk Tryd.prog 159 = some ⟨4, 40, true, .agg [.v (.pointer none), .v (.pointer none), .v (.pointer none), .v (str [])], .struct [(0, 17), (1, 17), (2, 17), (3, 9)]⟩ := by kernel_rfl
theorem tk160 : tk Tryd.prog 160 = some ⟨4, 40, true, .agg [.v (.pointer none), .v (.pointer none), .v (.pointer none), .v (str [])], .struct [(0, 17), (1, 17), (2, 17), (3, 9)]⟩ := by kernel_rfl
theorem tk161 : tk Tryd.prog 161 = some ⟨0, 0, true, .agg [], .array 0 16⟩ := by kernel_rfl
theorem tk162 : tk Tryd.prog 162 = some ⟨0, 0, true, .agg [], .other⟩ := by kernel_rfl
theorem tk163 : tk Tryd.prog 163 = some ⟨0, 0, true, .agg [], .other⟩ := by kernel_rfl
theorem tk164 : tk Tryd.prog 164 = some ⟨1, 1, false, .v (.int .u8 0), .int .u8⟩ := by kernel_rfl
theorem tk165 : tk Tryd.prog 165 = some ⟨1, 1, false, .v (.int .u8 0), .int .u8⟩ := by kernel_rfl
theorem tk166 : tk Tryd.prog 166 = some ⟨1, 8, false, .v .nilFunc, .func⟩ := by kernel_rfl
theorem tk167 : tk Tryd.prog 167 = some ⟨1, 4, false, .v (.int .i32 0), .int .i32⟩ := by kernel_rfl
theorem tk168 : tk Tryd.prog 168 = some ⟨1, 4, false, .v (.int .i32 0), .int .i32⟩ := by kernel_rfl
theorem tk169 : tk Tryd.prog 169 = some ⟨11, 48, true, .agg [.v (.int .u64 0), .v (.int .u64 0), .v (.int .u32 0), .v (.int .u8 0), .v (.int .u8 0), .v (.int .u8 0), .v (.int .u8 0), .v .nilFunc, .v (.pointer none), .v (.int .i32 0), .v (.int .i32 0)], .struct [(0, 12), (1, 12), (2, 134), (3, 164), (4, 5), (5, 5), (6, 165), (7, 166), (8, 136), (9, 167), (10, 168)]⟩ := by kernel_rfl
theorem tk170 : tk Tryd.prog 170 = some ⟨11, 48, true, .agg [.v (.int .u64 0), .v (.int .u64 0), .v (.int .u32 0), .v (.int .u8 0), .v (.int .u8 0), .v (.int .u8 0), .v (.int .u8 0), .v .nilFunc, .v (.pointer none), .v (.int .i32 0), .v (.int .i32 0)], .struct [(0, 12), (1, 12), (2, 134), (3, 164), (4, 5), (5, 5), (6, 165), (7, 166), (8, 136), (9, 167), (10, 168)]⟩ := by kernel_rfl
theorem tk171 : tk Tryd.prog 171 = some ⟨1, 8, false, .v .nilFunc, .func⟩ := by kernel_rfl
end Go.Proofs
