/- A walk of functions that the law reaches: what each call comes to. -/
import Derived.Test.YtldlldamnliejaaAw19
import Derived.Test.YtldlldamnliejaaProg
import Derived.KernelRfl
namespace Go.Aw
open Go Go.Proofs
theorem ti3 : ti Try.prog 3 = ⟨true, false, 1, 8, 0, 8, [], [], [.val (.int .i64 0)]⟩ := by kernel_rfl
theorem ti4 : ti Try.prog 4 = ⟨true, false, 1, 1, 0, 9, [], [], [.val (.bool false)]⟩ := by kernel_rfl
theorem ti9 : ti Try.prog 9 = ⟨true, false, 1, 16, 0, 2, [], [], [.val (.string ⟨#[]⟩)]⟩ := by kernel_rfl
theorem ti22 : ti Try.prog 22 = ⟨true, false, 1, 24, 3, 1, [], [], [.sl true [] []]⟩ := by kernel_rfl
theorem ti23 : ti Try.prog 23 = ⟨true, false, 1, 24, 9, 1, [], [], [.sl true [] []]⟩ := by kernel_rfl
theorem ti25 : ti Try.prog 25 = ⟨true, false, 1, 24, 37, 1, [], [], [.sl true [] []]⟩ := by kernel_rfl
theorem ti32 : ti Try.prog 32 = ⟨true, true, 4, 64, 0, 3, [some 0, some 1, some 2, some 3], [1, 1, 1, 1], [.sl true [] [], .sl true [] [], .val (.int .i64 0), .val (.int .i64 0)]⟩ := by kernel_rfl
theorem ti33 : ti Try.prog 33 = ⟨true, false, 1, 24, 35, 1, [], [], [.sl true [] []]⟩ := by kernel_rfl
theorem ti35 : ti Try.prog 35 = ⟨true, true, 3, 48, 0, 3, [some 0, some 1, some 2], [1, 1, 1], [.val (.string ⟨#[]⟩), .val (.int .i64 0), .sl true [] []]⟩ := by kernel_rfl
theorem ti37 : ti Try.prog 37 = ⟨true, true, 4, 64, 0, 3, [some 0, some 1], [1, 3], [.val (.string ⟨#[]⟩), .val (.string ⟨#[]⟩), .val (.int .i64 0), .sl true [] []]⟩ := by kernel_rfl
theorem zk3 : zeroKnown Try.prog 3 = true := by kernel_rfl
theorem zk4 : zeroKnown Try.prog 4 = true := by kernel_rfl
theorem zk9 : zeroKnown Try.prog 9 = true := by kernel_rfl
theorem zk22 : zeroKnown Try.prog 22 = true := by kernel_rfl
theorem zk23 : zeroKnown Try.prog 23 = true := by kernel_rfl
theorem zk25 : zeroKnown Try.prog 25 = true := by kernel_rfl
theorem zk32 : zeroKnown Try.prog 32 = true := by kernel_rfl
theorem zk33 : zeroKnown Try.prog 33 = true := by kernel_rfl
theorem zk35 : zeroKnown Try.prog 35 = true := by kernel_rfl
theorem zk37 : zeroKnown Try.prog 37 = true := by kernel_rfl
end Go.Aw
