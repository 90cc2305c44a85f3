/- The types of this seat's program. -/
import Derived.Test.YtaicenafkjbnoaaAmY
import Derived.Test.YtaicenafkjbnoaaProg
set_option linter.unusedSimpArgs false
namespace Go.Proofs.Ytaicenafkjbnoaa
open Go.AM
theorem prg : Prog Try.prog (tyOf Try.prog) := prog_of (by kernel_rfl)
@[simp] theorem ty3 : tyOf Try.prog 3 = some ⟨.int .i64, 1, 8, [.int .i64 0]⟩ := by kernel_rfl
@[simp] theorem ty4 : tyOf Try.prog 4 = some ⟨.bool, 1, 1, [.bool false]⟩ := by kernel_rfl
@[simp] theorem ty5 : tyOf Try.prog 5 = some ⟨.int .u8, 1, 1, [.int .u8 0]⟩ := by kernel_rfl
@[simp] theorem ty9 : tyOf Try.prog 9 = some ⟨.str, 1, 16, [.str ⟨⟨[]⟩⟩]⟩ := by kernel_rfl
@[simp] theorem ty22 : tyOf Try.prog 22 = some ⟨.slice 5, 1, 24, [.nil]⟩ := by kernel_rfl
@[simp] theorem ty23 : tyOf Try.prog 23 = some ⟨.slice 3, 1, 24, [.nil]⟩ := by kernel_rfl
@[simp] theorem ty24 : tyOf Try.prog 24 = some ⟨.slice 126, 1, 24, [.nil]⟩ := by kernel_rfl
@[simp] theorem ty26 : tyOf Try.prog 26 = some ⟨.struct [(0, 3), (1, 23), (2, 24)], 3, 56, [.int .i64 0, .nil, .nil]⟩ := by kernel_rfl
@[simp] theorem ty28 : tyOf Try.prog 28 = some ⟨.struct [(0, 26), (3, 23), (4, 23)], 5, 104, [.int .i64 0, .nil, .nil, .nil, .nil]⟩ := by kernel_rfl
@[simp] theorem ty33 : tyOf Try.prog 33 = some ⟨.slice 129, 1, 24, [.nil]⟩ := by kernel_rfl
@[simp] theorem ty35 : tyOf Try.prog 35 = some ⟨.struct [(0, 3), (1, 23), (2, 33)], 3, 56, [.int .i64 0, .nil, .nil]⟩ := by kernel_rfl
@[simp] theorem ty38 : tyOf Try.prog 38 = some ⟨.struct [(0, 3), (1, 3), (2, 3)], 3, 24, [.int .i64 0, .int .i64 0, .int .i64 0]⟩ := by kernel_rfl
@[simp] theorem ty58 : tyOf Try.prog 58 = some ⟨.slice 106, 1, 24, [.nil]⟩ := by kernel_rfl
@[simp] theorem ty65 : tyOf Try.prog 65 = some ⟨.slice 110, 1, 24, [.nil]⟩ := by kernel_rfl
@[simp] theorem ty82 : tyOf Try.prog 82 = some ⟨.ptr, 1, 8, [.bad]⟩ := by kernel_rfl
@[simp] theorem ty86 : tyOf Try.prog 86 = some ⟨.slice 4, 1, 24, [.nil]⟩ := by kernel_rfl
@[simp] theorem ty102 : tyOf Try.prog 102 = some ⟨.ptr, 1, 8, [.bad]⟩ := by kernel_rfl
@[simp] theorem ty106 : tyOf Try.prog 106 = some ⟨.struct [(0, 3), (1, 3)], 2, 16, [.int .i64 0, .int .i64 0]⟩ := by kernel_rfl
@[simp] theorem ty110 : tyOf Try.prog 110 = some ⟨.struct [(0, 3), (1, 3)], 2, 16, [.int .i64 0, .int .i64 0]⟩ := by kernel_rfl
@[simp] theorem ty116 : tyOf Try.prog 116 = some ⟨.slice 23, 1, 24, [.nil]⟩ := by kernel_rfl
@[simp] theorem ty122 : tyOf Try.prog 122 = some ⟨.func, 1, 8, [.bad]⟩ := by kernel_rfl
@[simp] theorem ty124 : tyOf Try.prog 124 = some ⟨.struct [(0, 22), (1, 3)], 2, 32, [.nil, .int .i64 0]⟩ := by kernel_rfl
@[simp] theorem ty126 : tyOf Try.prog 126 = some ⟨.struct [(0, 3), (1, 23), (2, 3)], 3, 40, [.int .i64 0, .nil, .int .i64 0]⟩ := by kernel_rfl
@[simp] theorem ty129 : tyOf Try.prog 129 = some ⟨.struct [(0, 3), (1, 23), (2, 3)], 3, 40, [.int .i64 0, .nil, .int .i64 0]⟩ := by kernel_rfl
@[simp] theorem ty148 : tyOf Try.prog 148 = some ⟨.func, 1, 8, [.bad]⟩ := by kernel_rfl
@[simp] theorem ty150 : tyOf Try.prog 150 = some ⟨.slice 9, 1, 24, [.nil]⟩ := by kernel_rfl
@[simp] theorem ty153 : tyOf Try.prog 153 = some ⟨.array 5 4, 5, 5, [.bool false, .bool false, .bool false, .bool false, .bool false]⟩ := by kernel_rfl
@[simp] theorem ty161 : tyOf Try.prog 161 = some ⟨.func, 1, 8, [.bad]⟩ := by kernel_rfl
@[simp] theorem ty164 : tyOf Try.prog 164 = some ⟨.int .u64, 1, 8, [.int .u64 0]⟩ := by kernel_rfl
@[simp] theorem ty166 : tyOf Try.prog 166 = some ⟨.ptr, 1, 8, [.bad]⟩ := by kernel_rfl
@[simp] theorem ty168 : tyOf Try.prog 168 = some ⟨.ptr, 1, 8, [.bad]⟩ := by kernel_rfl
@[simp] theorem ty170 : tyOf Try.prog 170 = some ⟨.int .u32, 1, 4, [.int .u32 0]⟩ := by kernel_rfl
@[simp] theorem ty172 : tyOf Try.prog 172 = some ⟨.int .u64, 1, 8, [.int .u64 0]⟩ := by kernel_rfl
end Go.Proofs.Ytaicenafkjbnoaa
